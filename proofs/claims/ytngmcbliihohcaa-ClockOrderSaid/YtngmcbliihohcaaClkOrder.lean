/-
  ClockOrder: Leq is an order, and Compare speaks of it; proved for every input, no condition.
-/
import Derived.Test.YtngmcbliihohcaaClock5
set_option linter.unusedSimpArgs false
set_option linter.unusedVariables false
namespace Go.Proofs.Ytngmcbliihohcaa
open Go.ChangeShapes Go.WideShapes Go.ChangeAt Go.RowKit Go.Deep

set_option maxHeartbeats 4000000 in
theorem order_bad0 {w : World} {a0 a1 a2 : Option Addr} {n0 n1 n2 c0 c1 c2 : Nat} {x y z : List Int} (hx : IsInts w a0 n0 c0 x) (hy : IsInts w a1 n1 c1 y) (hz : IsInts w a2 n2 c2 z) (ho : okClock x = false) :
    Calls Try.prog 6 #[.slice a0 n0 c0, .slice a1 n1 c1, .slice a2 n2 c2] w fun e w' => e = .returned (.bool true) ∧ Below w.heap.size w w' := by
  have ex := errOf_bad ho
  have hn0 := hx.bd
  have hn1 := hy.bd
  have hn2 := hz.bd
  have hB_w := Below.refl w.heap.size w
  go_enter Try.func6, Try.ntmps6
  go_wp2_with fail
  (with_reducible refine (awake_calls _).mono ?_)
  rintro e w1 ⟨rfl, hb⟩
  have hB_w1 := hB_w.trans (hb.mono hB_w.size)
  clear hb
  go_wp2_with fail
  (with_reducible refine (rof_calls (hx.below hB_w1)).mono ?_)
  rintro e w2 ⟨rfl, hb⟩
  have hB_w2 := hB_w1.trans (hb.mono hB_w1.size)
  clear hb
  go_wp2_with fail
  (with_reducible refine (rof_calls (hy.below hB_w2)).mono ?_)
  rintro e w3 ⟨rfl, hb⟩
  have hB_w3 := hB_w2.trans (hb.mono hB_w2.size)
  clear hb
  go_wp2_with fail
  (with_reducible refine (rof_calls (hz.below hB_w3)).mono ?_)
  rintro e w4 ⟨rfl, hb⟩
  have hB_w4 := hB_w3.trans (hb.mono hB_w3.size)
  clear hb
  go_wp2
  go_ret
  exact ⟨rfl, hB_w4⟩
set_option maxHeartbeats 4000000 in
theorem order_bad1 {w : World} {a0 a1 a2 : Option Addr} {n0 n1 n2 c0 c1 c2 : Nat} {x y z : List Int} (hx : IsInts w a0 n0 c0 x) (hy : IsInts w a1 n1 c1 y) (hz : IsInts w a2 n2 c2 z) (ho : okClock x = true) (ho1 : okClock y = false) :
    Calls Try.prog 6 #[.slice a0 n0 c0, .slice a1 n1 c1, .slice a2 n2 c2] w fun e w' => e = .returned (.bool true) ∧ Below w.heap.size w w' := by
  have ex := errOf_ok ho
  have ey := errOf_bad ho1
  have hn0 := hx.bd
  have hn1 := hy.bd
  have hn2 := hz.bd
  have hB_w := Below.refl w.heap.size w
  go_enter Try.func6, Try.ntmps6
  go_wp2_with fail
  (with_reducible refine (awake_calls _).mono ?_)
  rintro e w1 ⟨rfl, hb⟩
  have hB_w1 := hB_w.trans (hb.mono hB_w.size)
  clear hb
  go_wp2_with fail
  (with_reducible refine (rof_calls (hx.below hB_w1)).mono ?_)
  rintro e w2 ⟨rfl, hb⟩
  have hB_w2 := hB_w1.trans (hb.mono hB_w1.size)
  clear hb
  go_wp2_with fail
  (with_reducible refine (rof_calls (hy.below hB_w2)).mono ?_)
  rintro e w3 ⟨rfl, hb⟩
  have hB_w3 := hB_w2.trans (hb.mono hB_w2.size)
  clear hb
  go_wp2_with fail
  (with_reducible refine (rof_calls (hz.below hB_w3)).mono ?_)
  rintro e w4 ⟨rfl, hb⟩
  have hB_w4 := hB_w3.trans (hb.mono hB_w3.size)
  clear hb
  go_wp2
  go_ret
  exact ⟨rfl, hB_w4⟩
set_option maxHeartbeats 4000000 in
theorem order_bad2 {w : World} {a0 a1 a2 : Option Addr} {n0 n1 n2 c0 c1 c2 : Nat} {x y z : List Int} (hx : IsInts w a0 n0 c0 x) (hy : IsInts w a1 n1 c1 y) (hz : IsInts w a2 n2 c2 z) (ho : okClock x = true) (ho1 : okClock y = true) (ho2 : okClock z = false) :
    Calls Try.prog 6 #[.slice a0 n0 c0, .slice a1 n1 c1, .slice a2 n2 c2] w fun e w' => e = .returned (.bool true) ∧ Below w.heap.size w w' := by
  have ex := errOf_ok ho
  have ey := errOf_ok ho1
  have ez := errOf_bad ho2
  have hn0 := hx.bd
  have hn1 := hy.bd
  have hn2 := hz.bd
  have hB_w := Below.refl w.heap.size w
  go_enter Try.func6, Try.ntmps6
  go_wp2_with fail
  (with_reducible refine (awake_calls _).mono ?_)
  rintro e w1 ⟨rfl, hb⟩
  have hB_w1 := hB_w.trans (hb.mono hB_w.size)
  clear hb
  go_wp2_with fail
  (with_reducible refine (rof_calls (hx.below hB_w1)).mono ?_)
  rintro e w2 ⟨rfl, hb⟩
  have hB_w2 := hB_w1.trans (hb.mono hB_w1.size)
  clear hb
  go_wp2_with fail
  (with_reducible refine (rof_calls (hy.below hB_w2)).mono ?_)
  rintro e w3 ⟨rfl, hb⟩
  have hB_w3 := hB_w2.trans (hb.mono hB_w2.size)
  clear hb
  go_wp2_with fail
  (with_reducible refine (rof_calls (hz.below hB_w3)).mono ?_)
  rintro e w4 ⟨rfl, hb⟩
  have hB_w4 := hB_w3.trans (hb.mono hB_w3.size)
  clear hb
  go_wp2
  go_ret
  exact ⟨rfl, hB_w4⟩
set_option maxHeartbeats 4000000 in
theorem order_bad3 {w : World} {a0 a1 a2 : Option Addr} {n0 n1 n2 c0 c1 c2 : Nat} {x y z : List Int} (hx : IsInts w a0 n0 c0 x) (hy : IsInts w a1 n1 c1 y) (hz : IsInts w a2 n2 c2 z) (ho : okClock x = true) (ho1 : okClock y = true) (ho2 : okClock z = true) (hl : n0 ≠ n1) :
    Calls Try.prog 6 #[.slice a0 n0 c0, .slice a1 n1 c1, .slice a2 n2 c2] w fun e w' => e = .returned (.bool true) ∧ Below w.heap.size w w' := by
  have ex := errOf_ok ho
  have ey := errOf_ok ho1
  have ez := errOf_ok ho2
  have ht : ((n0 : Int) != (n1 : Int)) = true := by rw [bne_iff_ne]; omega
  have hn0 := hx.bd
  have hn1 := hy.bd
  have hn2 := hz.bd
  have hB_w := Below.refl w.heap.size w
  go_enter Try.func6, Try.ntmps6
  go_wp2_with fail
  (with_reducible refine (awake_calls _).mono ?_)
  rintro e w1 ⟨rfl, hb⟩
  have hB_w1 := hB_w.trans (hb.mono hB_w.size)
  clear hb
  go_wp2_with fail
  (with_reducible refine (rof_calls (hx.below hB_w1)).mono ?_)
  rintro e w2 ⟨rfl, hb⟩
  have hB_w2 := hB_w1.trans (hb.mono hB_w1.size)
  clear hb
  go_wp2_with fail
  (with_reducible refine (rof_calls (hy.below hB_w2)).mono ?_)
  rintro e w3 ⟨rfl, hb⟩
  have hB_w3 := hB_w2.trans (hb.mono hB_w2.size)
  clear hb
  go_wp2_with fail
  (with_reducible refine (rof_calls (hz.below hB_w3)).mono ?_)
  rintro e w4 ⟨rfl, hb⟩
  have hB_w4 := hB_w3.trans (hb.mono hB_w3.size)
  clear hb
  go_wp2
  go_ret
  exact ⟨rfl, hB_w4⟩
set_option maxHeartbeats 4000000 in
theorem order_bad4 {w : World} {a0 a1 a2 : Option Addr} {n0 n1 n2 c0 c1 c2 : Nat} {x y z : List Int} (hx : IsInts w a0 n0 c0 x) (hy : IsInts w a1 n1 c1 y) (hz : IsInts w a2 n2 c2 z) (ho : okClock x = true) (ho1 : okClock y = true) (ho2 : okClock z = true) (hl : n0 = n1) (hl2 : n1 ≠ n2) :
    Calls Try.prog 6 #[.slice a0 n0 c0, .slice a1 n1 c1, .slice a2 n2 c2] w fun e w' => e = .returned (.bool true) ∧ Below w.heap.size w w' := by
  have ex := errOf_ok ho
  have ey := errOf_ok ho1
  have ez := errOf_ok ho2
  subst hl
  have ht : ((n0 : Int) != (n2 : Int)) = true := by rw [bne_iff_ne]; omega
  have hn0 := hx.bd
  have hn1 := hy.bd
  have hn2 := hz.bd
  have hB_w := Below.refl w.heap.size w
  go_enter Try.func6, Try.ntmps6
  go_wp2_with fail
  (with_reducible refine (awake_calls _).mono ?_)
  rintro e w1 ⟨rfl, hb⟩
  have hB_w1 := hB_w.trans (hb.mono hB_w.size)
  clear hb
  go_wp2_with fail
  (with_reducible refine (rof_calls (hx.below hB_w1)).mono ?_)
  rintro e w2 ⟨rfl, hb⟩
  have hB_w2 := hB_w1.trans (hb.mono hB_w1.size)
  clear hb
  go_wp2_with fail
  (with_reducible refine (rof_calls (hy.below hB_w2)).mono ?_)
  rintro e w3 ⟨rfl, hb⟩
  have hB_w3 := hB_w2.trans (hb.mono hB_w2.size)
  clear hb
  go_wp2_with fail
  (with_reducible refine (rof_calls (hz.below hB_w3)).mono ?_)
  rintro e w4 ⟨rfl, hb⟩
  have hB_w4 := hB_w3.trans (hb.mono hB_w3.size)
  clear hb
  go_wp2
  go_ret
  exact ⟨rfl, hB_w4⟩
set_option maxHeartbeats 4000000 in
theorem order_good {w : World} {a0 a1 a2 : Option Addr} {n0 n1 n2 c0 c1 c2 : Nat} {x y z : List Int} (hx : IsInts w a0 n0 c0 x) (hy : IsInts w a1 n1 c1 y) (hz : IsInts w a2 n2 c2 z) (ho : okClock x = true) (ho1 : okClock y = true) (ho2 : okClock z = true) (hl : n0 = n1) (hl2 : n1 = n2) :
    Calls Try.prog 6 #[.slice a0 n0 c0, .slice a1 n1 c1, .slice a2 n2 c2] w fun e w' => e = .returned (.bool true) ∧ Below w.heap.size w w' := by
  have ex := errOf_ok ho
  have ey := errOf_ok ho1
  have ez := errOf_ok ho2
  subst hl hl2
  have hlx := hx.len
  have hly := hy.len
  have hxy : x.length = y.length := by omega
  have hself := leq_refl x
  have hanti := leq_anti (x := x) (y := y)
  have htr := fun h1 h2 => leq_trans (x := x) (y := y) (z := z) h1 h2
  have hcmp : cmpS x y = ((if leqB x y && leqB y x then 3 else if leqB x y then 1 else if leqB y x then 2 else 4), 0) := by unfold cmpS; rw [if_pos hxy]
  have Hself := Lib.hid hself
  have Hanti := Lib.hid hanti
  have Htr := Lib.hid htr
  have Hcmp := Lib.hid hcmp
  clear hself hanti htr hcmp hlx hly hxy
  have hn0 := hx.bd
  have hn1 := hy.bd
  have hn2 := hz.bd
  have hB_w := Below.refl w.heap.size w
  go_enter Try.func6, Try.ntmps6
  go_wp2_with fail
  (with_reducible refine (awake_calls _).mono ?_)
  rintro e w1 ⟨rfl, hb⟩
  have hB_w1 := hB_w.trans (hb.mono hB_w.size)
  clear hb
  go_wp2_with fail
  (with_reducible refine (rof_calls (hx.below hB_w1)).mono ?_)
  rintro e w2 ⟨rfl, hb⟩
  have hB_w2 := hB_w1.trans (hb.mono hB_w1.size)
  clear hb
  go_wp2_with fail
  (with_reducible refine (rof_calls (hy.below hB_w2)).mono ?_)
  rintro e w3 ⟨rfl, hb⟩
  have hB_w3 := hB_w2.trans (hb.mono hB_w2.size)
  clear hb
  go_wp2_with fail
  (with_reducible refine (rof_calls (hz.below hB_w3)).mono ?_)
  rintro e w4 ⟨rfl, hb⟩
  have hB_w4 := hB_w3.trans (hb.mono hB_w3.size)
  clear hb
  go_wp2_with fail
  (with_reducible refine (lof_calls (hx.below hB_w4) ho).mono ?_)
  rintro e w5 ⟨ba, ga, rfl, ca, qa, qa', hb⟩
  have hB_w5 := hB_w4.trans (hb.mono hB_w4.size)
  clear hb
  go_wp2_with fail
  (with_reducible refine (lof_calls (hy.below hB_w5) ho1).mono ?_)
  rintro e w6 ⟨bb, gb, rfl, cb, qb, qb', hb⟩
  have hB_w6 := hB_w5.trans (hb.mono hB_w5.size)
  have ca := ca.below hb
  clear hb
  go_wp2_with fail
  (with_reducible refine (lof_calls (hz.below hB_w6) ho2).mono ?_)
  rintro e w7 ⟨bc, gc, rfl, cc, qc, qc', hb⟩
  have hB_w7 := hB_w6.trans (hb.mono hB_w6.size)
  have ca := ca.below hb
  have cb := cb.below hb
  clear hb
  go_wp2_with fail
  (with_reducible refine (leq_calls ca ca).mono ?_)
  rintro e w8 ⟨rfl, hb⟩
  have hB_w8 := hB_w7.trans (hb.mono hB_w7.size)
  have ca := ca.below hb
  have cb := cb.below hb
  have cc := cc.below hb
  clear hb
  go_wp2_with fail
  (with_reducible refine (leq_calls ca cb).mono ?_)
  rintro e w9 ⟨rfl, hb⟩
  have hB_w9 := hB_w8.trans (hb.mono hB_w8.size)
  have ca := ca.below hb
  have cb := cb.below hb
  have cc := cc.below hb
  clear hb
  go_wp2_with fail
  (with_reducible refine (leq_calls cb ca).mono ?_)
  rintro e w10 ⟨rfl, hb⟩
  have hB_w10 := hB_w9.trans (hb.mono hB_w9.size)
  have ca := ca.below hb
  have cb := cb.below hb
  have cc := cc.below hb
  clear hb
  go_wp2_with fail
  (with_reducible refine (leq_calls cb cc).mono ?_)
  rintro e w11 ⟨rfl, hb⟩
  have hB_w11 := hB_w10.trans (hb.mono hB_w10.size)
  have ca := ca.below hb
  have cb := cb.below hb
  have cc := cc.below hb
  clear hb
  go_wp2_with fail
  (with_reducible refine (leq_calls ca cc).mono ?_)
  rintro e w12 ⟨rfl, hb⟩
  have hB_w12 := hB_w11.trans (hb.mono hB_w11.size)
  have ca := ca.below hb
  have cb := cb.below hb
  have cc := cc.below hb
  clear hb
  go_wp2_with fail
  (with_reducible refine (equal_calls (hx.below hB_w12) (hy.below hB_w12)).mono ?_)
  rintro e w13 ⟨rfl, hb⟩
  have hB_w13 := hB_w12.trans (hb.mono hB_w12.size)
  have ca := ca.below hb
  have cb := cb.below hb
  have cc := cc.below hb
  clear hb
  rw [Hself.out, ← Hanti.out]
  have cmp : ∀ w, ClockAt w ba ga x → ClockAt w bb gb y → Calls Try.prog 23 #[.pointer (some ⟨ba, 0, none⟩), .pointer (some ⟨bb, 0, none⟩)] w fun e w' =>
      e = .returned (.tuple #[.int .i64 (if leqB x y && leqB y x then 3 else if leqB x y then 1 else if leqB y x then 2 else 4), .int .i64 0]) ∧ Below w.heap.size w w' := fun w h1 h2 => by
    have := compare_calls h1 h2
    rw [Hcmp.out] at this
    exact this
  have Cmp := Lib.hid cmp
  have htr := Htr.out
  clear cmp Hcmp Hanti Hself Htr
  have Ca := Lib.hid ca
  have Cb := Lib.hid cb
  clear ca cb cc hx hy hz ho ho1 ho2
  cases hab : leqB x y <;> cases hba : leqB y x <;> cases hbc : leqB y z <;> simp only [hab, hba] at Cmp
  all_goals
    first
      | (have hac := htr hab hbc
         clear htr
         go_wp2_with fail
         refine (Cmp.out _ Ca.out Cb.out).mono ?_
         rintro e w14 ⟨rfl, hb⟩
         have hB_w14 := hB_w13.trans (hb.mono hB_w13.size)
         go_wp2
         go_ret
         exact ⟨rfl, hB_w14⟩)
      | (clear htr
         cases hac : leqB x z
         all_goals
           go_wp2_with fail
           refine (Cmp.out _ Ca.out Cb.out).mono ?_
           rintro e w14 ⟨rfl, hb⟩
           have hB_w14 := hB_w13.trans (hb.mono hB_w13.size)
           go_wp2
           go_ret
           exact ⟨rfl, hB_w14⟩)

theorem order_law {a0 : Option Addr} {n0 c0 : Nat} {x : List Int} {a1 : Option Addr} {n1 c1 : Nat} {y : List Int} {a2 : Option Addr} {n2 c2 : Nat} {z : List Int} {w : World}
    (hx : IsInts w a0 n0 c0 x) (hy : IsInts w a1 n1 c1 y) (hz : IsInts w a2 n2 c2 z) :
    Calls Try.prog 6 #[.slice a0 n0 c0, .slice a1 n1 c1, .slice a2 n2 c2] w fun e w' => e = .returned (.bool true) ∧ Below w.heap.size w w' := by
  cases ho : okClock x
  · exact order_bad0 hx hy hz ho
  cases ho1 : okClock y
  · exact order_bad1 hx hy hz ho ho1
  cases ho2 : okClock z
  · exact order_bad2 hx hy hz ho ho1 ho2
  by_cases hl : n0 = n1
  · by_cases hl2 : n1 = n2
    · exact order_good hx hy hz ho ho1 ho2 hl hl2
    · exact order_bad4 hx hy hz ho ho1 ho2 hl hl2
  · exact order_bad3 hx hy hz ho ho1 ho2 hl
end Go.Proofs.Ytngmcbliihohcaa
