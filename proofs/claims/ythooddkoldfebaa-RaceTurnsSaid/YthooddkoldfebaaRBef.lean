/-
  Before and Sync of the document's Order.
-/
import Derived.Test.YthooddkoldfebaaKnow
import Derived.Test.YthooddkoldfebaaROf
set_option linter.unusedSimpArgs false
set_option linter.unusedVariables false
namespace Go.Proofs.Ythooddkoldfebaa
open Go.ChangeShapes Go.WideShapes Go.ChangeAt Go.RowKit Go.Deep

/-- The document's Order in memory: its struct lies in the block rb. -/
structure ROrdAt (w : World) (rb : Nat) (a0 : Option Addr) (n c : Nat) (v1 v2 : Value) (l : List Ev) : Prop where
  blk : w.heap[rb]? = some (.cells #[.slice a0 n c, v1, v2] 27 (0, 0))
  m1 : ∃ B, MatAt w B v1 n n (fun j i => hbB (rD l) i j)
  m2 : ∃ B, MatAt w B v2 n n (fun j i => hbB (rS l) i j)
  evs : IsEvs w a0 n c l
theorem ROrdAt.below {w w' : World} {rb : Nat} {a0 : Option Addr} {n c : Nat} {v1 v2 : Value} {l : List Ev} (h : ROrdAt w rb a0 n c v1 v2 l) (hb : Below w.heap.size w w') : ROrdAt w' rb a0 n c v1 v2 l :=
  ⟨(hb.block rb (Array.getElem?_eq_some_iff.1 h.blk).1).trans h.blk, h.m1.imp fun B hm => hm.below hb, h.m2.imp fun B hm => hm.below hb, h.evs.below hb⟩

set_option maxHeartbeats 2000000 in
theorem rplace_calls {w : World} {rb : Nat} {a0 : Option Addr} {n c : Nat} {v1 v2 : Value} {l : List Ev} (h : ROrdAt w rb a0 n c v1 v2 l) (i : Int) :
    Calls Try.prog 60 #[.pointer (some ⟨rb, 0, none⟩), .int .i64 i] w fun e w' => e = .returned (.bool (inN n i)) ∧ w = w' := by
  have hc : w.cell? ⟨rb, 0, none⟩ = some (.slice a0 n c) := cell_of_block h.blk
  have hnm : n ≤ 9223372036854775807 := by have := h.evs.le; have := h.evs.cap; unfold maxLen at *; omega
  by_cases h0 : 0 ≤ i
  · have Hv : Hid (inN n i = decide (i < (n : Int))) := by unfold Hid inN; simp [h0]
    rw [Hv.out]
    have h0' : decide (0 ≤ i) = true := by simpa using h0
    go_enter Try.func60, Try.ntmps60
    go_wp2
    go_ret
    exact ⟨rfl, rfl⟩
  · have Hv : Hid (inN n i = false) := by unfold Hid inN; simp [h0]
    rw [Hv.out]
    have h0' : decide (0 ≤ i) = false := by simpa using h0
    go_enter Try.func60, Try.ntmps60
    go_wp2
    go_ret
    exact ⟨rfl, rfl⟩

set_option maxRecDepth 20000 in
set_option maxHeartbeats 4000000 in
theorem rbefore_calls {w : World} {rb : Nat} {a0 : Option Addr} {n c : Nat} {v1 v2 : Value} {l : List Ev} (h : ROrdAt w rb a0 n c v1 v2 l) (i j : Int) :
    Calls Try.prog 24 #[.pointer (some ⟨rb, 0, none⟩), .int .i64 i, .int .i64 j] w fun e w' => e = .returned (.bool (befB n (rD l) i j)) ∧ w = w' := by
  have hc : w.cell? ⟨rb, 1, none⟩ = some v1 := cell_of_block h.blk
  have hpi := rplace_calls h i
  have hpj := rplace_calls h j
  rcases inN_cases n i with hi | ⟨ki, rfl, hki⟩
  · have Hv : Hid (befB n (rD l) i j = false) := by unfold Hid befB; rw [hi]; rfl
    rw [hi] at hpi
    have Hpi := Lib.hid hpi
    have Hpj := Lib.hid hpj
    clear hpi hpj hi
    rw [Hv.out]
    rcases Bool.eq_false_or_eq_true (inN n j) with hj | hj
    all_goals
      have Hj := Lib.hid hj
      clear hj
      go_enter Try.func24, Try.ntmps24
      go_wp2_with fail
      refine Hpi.out.mono ?_
      rintro e w' ⟨rfl, rfl⟩
      go_wp2_with fail
      refine Hpj.out.mono ?_
      rintro e w' ⟨rfl, rfl⟩
      rw [Hj.out]
      go_wp2
      go_ret
      exact ⟨rfl, rfl⟩
  rw [inN_nat, decide_eq_true hki] at hpi
  have Hpi := Lib.hid hpi
  clear hpi
  rcases inN_cases n j with hj | ⟨kj, rfl, hkj⟩
  · have Hv : Hid (befB n (rD l) (ki : Int) j = false) := by unfold Hid befB; rw [hj]; simp
    rw [hj] at hpj
    have Hpj := Lib.hid hpj
    clear hpj hj
    rw [Hv.out]
    go_enter Try.func24, Try.ntmps24
    go_wp2_with fail
    refine Hpi.out.mono ?_
    rintro e w' ⟨rfl, rfl⟩
    go_wp2_with fail
    refine Hpj.out.mono ?_
    rintro e w' ⟨rfl, rfl⟩
    go_wp2
    go_ret
    exact ⟨rfl, rfl⟩
  rw [inN_nat, decide_eq_true hkj] at hpj
  have Hpj := Lib.hid hpj
  clear hpj
  have hv : befB n (rD l) (ki : Int) (kj : Int) = hbB (rD l) ki kj := by unfold befB; rw [inN_nat, inN_nat]; simp [hki, hkj]
  have Hv := Lib.hid hv
  clear hv
  rw [Hv.out]
  obtain ⟨B, hm⟩ := h.m1
  obtain ⟨x, co, g, rfl, cx, hnc, hgc⟩ := hm.read hkj
  have cg := hgc ki hki
  clear hgc
  go_enter Try.func24, Try.ntmps24
  go_wp2_with fail
  refine Hpi.out.mono ?_
  rintro e w' ⟨rfl, rfl⟩
  go_wp2_with fail
  refine Hpj.out.mono ?_
  rintro e w' ⟨rfl, rfl⟩
  go_wp2
  go_ret
  exact ⟨rfl, rfl⟩

set_option maxRecDepth 20000 in
set_option maxHeartbeats 4000000 in
theorem rsync_calls {w : World} {rb : Nat} {a0 : Option Addr} {n c : Nat} {v1 v2 : Value} {l : List Ev} (h : ROrdAt w rb a0 n c v1 v2 l) (i j : Int) :
    Calls Try.prog 25 #[.pointer (some ⟨rb, 0, none⟩), .int .i64 i, .int .i64 j] w fun e w' => e = .returned (.bool (befB n (rS l) i j)) ∧ w = w' := by
  have hc : w.cell? ⟨rb, 2, none⟩ = some v2 := cell_of_block h.blk
  have hpi := rplace_calls h i
  have hpj := rplace_calls h j
  rcases inN_cases n i with hi | ⟨ki, rfl, hki⟩
  · have Hv : Hid (befB n (rS l) i j = false) := by unfold Hid befB; rw [hi]; rfl
    rw [hi] at hpi
    have Hpi := Lib.hid hpi
    have Hpj := Lib.hid hpj
    clear hpi hpj hi
    rw [Hv.out]
    rcases Bool.eq_false_or_eq_true (inN n j) with hj | hj
    all_goals
      have Hj := Lib.hid hj
      clear hj
      go_enter Try.func25, Try.ntmps25
      go_wp2_with fail
      refine Hpi.out.mono ?_
      rintro e w' ⟨rfl, rfl⟩
      go_wp2_with fail
      refine Hpj.out.mono ?_
      rintro e w' ⟨rfl, rfl⟩
      rw [Hj.out]
      go_wp2
      go_ret
      exact ⟨rfl, rfl⟩
  rw [inN_nat, decide_eq_true hki] at hpi
  have Hpi := Lib.hid hpi
  clear hpi
  rcases inN_cases n j with hj | ⟨kj, rfl, hkj⟩
  · have Hv : Hid (befB n (rS l) (ki : Int) j = false) := by unfold Hid befB; rw [hj]; simp
    rw [hj] at hpj
    have Hpj := Lib.hid hpj
    clear hpj hj
    rw [Hv.out]
    go_enter Try.func25, Try.ntmps25
    go_wp2_with fail
    refine Hpi.out.mono ?_
    rintro e w' ⟨rfl, rfl⟩
    go_wp2_with fail
    refine Hpj.out.mono ?_
    rintro e w' ⟨rfl, rfl⟩
    go_wp2
    go_ret
    exact ⟨rfl, rfl⟩
  rw [inN_nat, decide_eq_true hkj] at hpj
  have Hpj := Lib.hid hpj
  clear hpj
  have hv : befB n (rS l) (ki : Int) (kj : Int) = hbB (rS l) ki kj := by unfold befB; rw [inN_nat, inN_nat]; simp [hki, hkj]
  have Hv := Lib.hid hv
  clear hv
  rw [Hv.out]
  obtain ⟨B, hm⟩ := h.m2
  obtain ⟨x, co, g, rfl, cx, hnc, hgc⟩ := hm.read hkj
  have cg := hgc ki hki
  clear hgc
  go_enter Try.func25, Try.ntmps25
  go_wp2_with fail
  refine Hpi.out.mono ?_
  rintro e w' ⟨rfl, rfl⟩
  go_wp2_with fail
  refine Hpj.out.mono ?_
  rintro e w' ⟨rfl, rfl⟩
  go_wp2
  go_ret
  exact ⟨rfl, rfl⟩
end Go.Proofs.Ythooddkoldfebaa
