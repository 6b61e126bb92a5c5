/-
  A set's iterator: the threads of a set, rising, for every loop body that keeps what lay.
-/
import Derived.Test.YtobhandimolmhaaDoorRound
import Derived.Test.YtobhandimolmhaaDoorSets
set_option linter.unusedSimpArgs false
set_option linter.unusedVariables false
namespace Go.Proofs.YtobhandimolmhaaDoor
open Go Go.RowKit Go.Shelf

attribute [local go_sem] Oper.semAt_some

def all8 : List (Fin 8) := [⟨0, by decide⟩, ⟨1, by decide⟩, ⟨2, by decide⟩, ⟨3, by decide⟩, ⟨4, by decide⟩, ⟨5, by decide⟩, ⟨6, by decide⟩, ⟨7, by decide⟩]
/-- The threads of a set. -/
def bl (m : Nat) : List (Fin 8) := all8.filter (fun t => m.testBit t.val)
def encT (t : Fin 8) : Array Value := #[.int .i64 (t.val : Int)]
theorem bl_zero : bl 0 = [] := by decide
theorem bl_step {m : Nat} (hm : m < 256) (h0 : m ≠ 0) : ∃ t : Fin 8, bl m = t :: bl (m &&& (m - 1)) ∧ leastI m = (t.val : Int) ∧ m &&& (m - 1) < m := by
  have all : ∀ m, m < 256 → m = 0 ∨ (match bl m with | [] => false | t :: r => decide (r = bl (m &&& (m - 1))) && decide (leastI m = (t.val : Int)) && decide (m &&& (m - 1) < m)) = true := all256 (by kernel_rfl)
  rcases all m hm with h | h
  · exact absurd h h0
  · cases hb : bl m with
    | nil => rw [hb] at h; cases h
    | cons t r =>
      rw [hb] at h
      simp only [Bool.and_eq_true, decide_eq_true_eq] at h
      exact ⟨t, by rw [h.1.1], h.1.2, h.2⟩
theorem sub_one_u64 {m : Nat} (hm : m < 256) (h0 : m ≠ 0) : bits .and .u64 (m : Int) ((m : Int) - 1) = ((m &&& (m - 1) : Nat) : Int) := by
  have e : ((m : Int) - 1) = ((m - 1 : Nat) : Int) := by omega
  rw [e, bits_and_u64_nat _ _ (by omega) (by omega)]

set_option maxHeartbeats 1000000 in
theorem all_calls (w : World) (s : Int) : Calls Tryd.prog 23 #[.int .u64 s] w fun e w' => e = .returned (.func (.func 30) #[] #[.pointer (some ⟨w.heap.size, 0, none⟩)]) ∧ w' = w.alloc (.cells #[.int .u64 s] 27) := by
  go_enter Tryd.func23, Tryd.ntmps23
  go_wp2
  go_ret
  exact ⟨rfl, rfl⟩

set_option maxRecDepth 100000 in
set_option maxHeartbeats 1000000 in
theorem all1_in (n : Nat) (l Bn n₀ : Nat) {s : Nat} (hs : s < 18446744073709551616) (h2 : 2 ≤ n₀) (J Jx : List (Fin 8) → World → Prop)
    (hY : ∀ pre x W, J pre W → pre.length < 8 → YieldAt Fence.wide (n - 1) Tryd.prog l (encT x) W fun e W' =>
      (e = .returned (.bool true) ∧ J (pre ++ [x]) W' ∧ Below n₀ W W') ∨ (e = .returned (.bool false) ∧ Jx (pre ++ [x]) W'))
    (W : World) (hT : TabOk W) (hBn : W.cell? ⟨Bn, 0, none⟩ = some (.int .u64 s)) (h0 : J [] W) :
    CallsIn Fence.wide n Tryd.prog 30 #[.func (.yield l) #[] #[], .pointer (some ⟨Bn, 0, none⟩)] W fun e W' => (∃ v, e = .returned v) ∧
      ((∃ ys, ys = bl (s % 256) ∧ J ys W') ∨ (∃ pre, pre <+: bl (s % 256) ∧ Jx pre W')) := by
  have ha := and255 hs
  have hm256 : s % 256 < 256 := Nat.mod_lt _ (by omega)
  have hlen : (bl (s % 256)).length ≤ 8 := by unfold bl; exact Nat.le_trans (List.length_filter_le _ _) (by decide)
  generalize s % 256 = m0 at *
  refine callsIn_of_wp Tryd.func30 rfl trivial ?_ rfl
  simp only [Tryd.ntmps30, List.size_toArray, List.length_cons, List.length_nil, Nat.reduceAdd, Nat.reduceSub, Array.replicate_succ, Array.replicate_zero, List.push_toArray, List.append_toArray, List.nil_append, List.cons_append]
  gi_wp2
  gi_loopw [3] (fun p wr => ∃ (pre : List (Fin 8)) (m : Nat), m < 256 ∧ p = .int .u64 (m : Int) ∧ bl m0 = pre ++ bl m ∧ TabOk wr ∧ J pre wr)
    (fun p _ => (intOf p).toNat)
  case atStart =>
    exact ⟨[], m0, hm256, rfl, rfl, hT, h0⟩
  case round =>
    obtain ⟨pre, m, hm, rfl, hx, hTr, hJs⟩ := hrel
    by_cases hm0 : m = 0
    · subst hm0
      rw [bl_zero, List.append_nil] at hx
      gi_wp2
      go_end0
      exact ⟨⟨_, rfl⟩, .inl ⟨pre, hx.symm, hJs⟩⟩
    · obtain ⟨t, hb, hl, hlt⟩ := bl_step hm hm0
      obtain ⟨fn, tmps, assign, body, hy, hR⟩ := hY pre t wr hJs (by have := congrArg List.length hx; rw [hb, List.length_append, List.length_cons] at this; omega)
      unfold encT at hy
      have hLs := callsIn_wide (n := n - 1).2 (least_calls hTr (s := m) (by omega))
      rw [Nat.mod_eq_of_lt hm, hl] at hLs
      have hsub := sub_one_u64 hm hm0
      have Hsub := Lib.hid hsub
      have Hx := Lib.hid hx
      have HT := Lib.hid hTr
      clear hx hTr
      gi_wp2
      refine ⟨trivial, fun h => (by cases h), hLs.mono ?_⟩
      rintro e w2 ⟨rfl, rfl⟩
      gi_wp2
      refine ⟨fun h => (by cases h), hR.mono ?_⟩
      rintro e W3 (⟨rfl, hJ3, hk3⟩ | ⟨rfl, hJx3⟩)
      · have hT3 : TabOk W3 := ⟨fun i hi => (hk3.cell (p := ⟨1, i, none⟩) (by simp; omega)).trans (HT.out.get i hi)⟩
        gi_wp2
        go_roundw
        case rel => exact ⟨pre ++ [t], m &&& (m - 1), by omega, by rw [← Hsub.out], by rw [Hx.out, hb]; simp, hT3, hJ3⟩
        case measure =>
          have h9 := Hsub.out
          simp [intOf, h9]; omega
      · gi_wp2
        refine bodyPost_ret (results_none rfl _ _ _) rfl ?_
        exact ⟨⟨_, rfl⟩, .inr ⟨pre ++ [t], ⟨bl (m &&& (m - 1)), by rw [Hx.out, hb]; simp⟩, hJx3⟩⟩

theorem all_stops (n : Nat) (Bn n₀ : Nat) {s : Nat} (hs : s < 18446744073709551616) (h2 : 2 ≤ n₀) (w : World) (hB : Bn < w.heap.size) (hn : n₀ ≤ w.heap.size) (hT : TabOk w) (hc : w.cell? ⟨Bn, 0, none⟩ = some (.int .u64 s)) :
    SeqStopsK Fence.wide n Tryd.prog 30 #[.pointer (some ⟨Bn, 0, none⟩)] encT (Below n₀) (fun ys => ys = bl (s % 256)) (fun pre => pre <+: bl (s % 256)) 8 w := fun l J Jx W hW _ _ hY h0 =>
  all1_in n l Bn n₀ hs h2 J Jx hY W (hT.below hW) ((hW.cell (p := ⟨Bn, 0, none⟩) hB).trans hc) h0
end Go.Proofs.YtobhandimolmhaaDoor
