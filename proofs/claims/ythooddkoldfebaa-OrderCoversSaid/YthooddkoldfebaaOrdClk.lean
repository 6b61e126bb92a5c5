/-
  Clock and SyncClock of an Order, the program's and the document's; what they hold.
-/
import Derived.Test.YthooddkoldfebaaOrderOf
import Derived.Test.YthooddkoldfebaaOrdMore
import Derived.Test.YthooddkoldfebaaPush
set_option linter.unusedSimpArgs false
set_option linter.unusedVariables false
namespace Go.Proofs.Ythooddkoldfebaa
open Go.ChangeShapes Go.WideShapes Go.ChangeAt Go.RowKit Go.Deep

theorem ints_nil (w : World) : IsInts w none 0 0 [] := ⟨Reads.nil, rfl, Nat.le_refl _, Nat.zero_le _, fun e he => by cases he⟩
def IntsPost (w : World) (x : List Int) (e : Ending) (w' : World) : Prop := ∃ a c, e = .returned (.slice a x.length c) ∧ IsInts w' a x.length c x ∧ Below w.heap.size w w'

/-- Two arrays compared element by element. -/
def eqElems (d : Nat) (e : TypeId) (n : Nat) (xs ys : Array Value) : List Nat → Sem Bool
  | [] => pure true
  | i :: is => do
    let a ← part e xs (i * n)
    let b ← part e ys (i * n)
    let r ← Op.equalIn d e a b
    if (!r) = true then pure false else eqElems d e n xs ys is
theorem run_equalIn_array {P : Program} (w : World) (d : Nat) (t e : TypeId) (len n : Nat) (xs ys : Array Value) (ht : P.underlying t = some (.array len e)) (hn : (sizeOf e).run P w = .ok n w) :
    (Op.equalIn (d + 1) t (.agg xs) (.agg ys)).run P w = (eqElems d e n xs ys (List.range len)).run P w := by
  simp only [Op.equalIn, Sem.run_bind, run_underlying ht, Result.andThen_ok, hn]
  rw [Std.Legacy.Range.forIn_eq_forIn_range']
  simp only [Std.Legacy.Range.size, Nat.sub_zero, Nat.add_sub_cancel, Nat.div_one]
  rw [← List.range_eq_range']
  generalize List.range len = is
  clear ht hn
  induction is generalizing w with
  | nil => simp [eqElems]
  | cons f fs ih =>
    simp only [List.forIn_cons, eqElems, Sem.run_bind]
    generalize (part e xs (f * n)).run P w = r1
    cases r1 with
    | ok a w1 =>
      simp only [Result.andThen_ok]
      generalize (part e ys (f * n)).run P w1 = r2
      cases r2 with
      | ok b w2 =>
        simp only [Result.andThen_ok]
        generalize (Op.equalIn d e a b).run P w2 = r3
        cases r3 with
        | ok r w3 =>
          cases r
          · simp only [Result.andThen_ok, Bool.not_false, if_true, Sem.run_pure]
          · simp only [Result.andThen_ok, Bool.not_true, Bool.false_eq_true, if_false, Sem.run_pure]
            exact ih w3
        | halt x w3 => simp [Result.andThen]
      | halt x w2 => simp [Result.andThen]
    | halt x w1 => simp [Result.andThen]
set_option maxHeartbeats 1000000 in
theorem run_eq_counts (w : World) (a0 a1 a2 a3 a4 a5 a6 a7 : Int) :
    (Op.equalIn 10000 71 (.agg #[.int .i64 a0, .int .i64 a1, .int .i64 a2, .int .i64 a3, .int .i64 a4, .int .i64 a5, .int .i64 a6, .int .i64 a7]) (.agg #[.int .i64 0, .int .i64 0, .int .i64 0, .int .i64 0, .int .i64 0, .int .i64 0, .int .i64 0, .int .i64 0])).run Try.prog w
      = .ok (decide (a0 = 0 ∧ a1 = 0 ∧ a2 = 0 ∧ a3 = 0 ∧ a4 = 0 ∧ a5 = 0 ∧ a6 = 0 ∧ a7 = 0)) w := by
  rw [run_equalIn_array w 9999 71 3 8 1 _ _ Try.underlying71 (by go_simp)]
  simp only [show List.range 8 = [0, 1, 2, 3, 4, 5, 6, 7] from rfl, eqElems]
  go_simp
  by_cases h0 : a0 = 0 <;> by_cases h1 : a1 = 0 <;> by_cases h2 : a2 = 0 <;> by_cases h3 : a3 = 0 <;> by_cases h4 : a4 = 0 <;> by_cases h5 : a5 = 0 <;> by_cases h6 : a6 = 0 <;> by_cases h7 : a7 = 0 <;> simp only [h0, h1, h2, h3, h4, h5, h6, h7, if_true, if_false, decide_true, decide_false, Bool.and_true, Bool.true_and, Bool.and_false, Bool.false_and]

set_option maxRecDepth 20000 in
set_option maxHeartbeats 4000000 in
theorem olist_calls (w : World) {x : List Int} (hx : CV x) (hne : ∃ t, t < 8 ∧ x.getD t 0 ≠ 0) :
    Calls Try.prog 61 #[.agg (vecC x)] w (IntsPost w x) := by
  obtain ⟨a0, a1, a2, a3, a4, a5, a6, a7, rfl⟩ := len8 hx.len
  have hne' : ¬ (a0 = 0 ∧ a1 = 0 ∧ a2 = 0 ∧ a3 = 0 ∧ a4 = 0 ∧ a5 = 0 ∧ a6 = 0 ∧ a7 = 0) := by
    rintro ⟨rfl, rfl, rfl, rfl, rfl, rfl, rfl, rfl⟩
    obtain ⟨t, ht, h⟩ := hne
    obtain rfl | rfl | rfl | rfl | rfl | rfl | rfl | rfl := lt8 ht
    all_goals exact h rfl
  have heq : ∀ W : World, (Op.equalIn 10000 71 (.agg #[.int .i64 a0, .int .i64 a1, .int .i64 a2, .int .i64 a3, .int .i64 a4, .int .i64 a5, .int .i64 a6, .int .i64 a7]) (.agg #[.int .i64 0, .int .i64 0, .int .i64 0, .int .i64 0, .int .i64 0, .int .i64 0, .int .i64 0, .int .i64 0])).run Try.prog W = .ok false W := fun W => by
    rw [run_eq_counts, decide_eq_false hne']
  have hmk : ∀ W, (Instr.makeSlice 42 (.int .i64 0) (.int .i64 8)).run Try.prog W = .ok (.slice (some ⟨W.heap.size, 0, none⟩) 0 8) (W.alloc (.cells (madeCells #[.int .i64 0] 8) 3)) := fun W => run_make0 W 8 (by omega)
  obtain ⟨i0, hi, hz0, hz1, hz2⟩ := info_parts infoInt
  have HI := Lib.hid (And.intro hi (And.intro hz0 (And.intro hz1 hz2)))
  have Hx := Lib.hid hx
  clear hne hx hne' hi hz0 hz1 hz2
  show Calls Try.prog 61 #[.agg #[.int .i64 a0, .int .i64 a1, .int .i64 a2, .int .i64 a3, .int .i64 a4, .int .i64 a5, .int .i64 a6, .int .i64 a7]] w _
  go_enter Try.func61, Try.ntmps61
  go_wp2_with fail
  have hg0 := (MapKept.heap_alloc w (.cells #[.int .i64 a0, .int .i64 a1, .int .i64 a2, .int .i64 a3, .int .i64 a4, .int .i64 a5, .int .i64 a6, .int .i64 a7] 71)).1
  have hB0 : Below w.heap.size w (w.alloc (.cells #[.int .i64 a0, .int .i64 a1, .int .i64 a2, .int .i64 a3, .int .i64 a4, .int .i64 a5, .int .i64 a6, .int .i64 a7] 71)) := (Below.refl _ w).alloc (Nat.le_refl _) _
  revert hg0 hB0
  generalize w.alloc (.cells #[.int .i64 a0, .int .i64 a1, .int .i64 a2, .int .i64 a3, .int .i64 a4, .int .i64 a5, .int .i64 a6, .int .i64 a7] 71) = z1
  intro hg0 hB0
  have hlt : w.heap.size < z1.heap.size := (Array.getElem?_eq_some_iff.1 hg0).1
  have hnews : ∀ j u, ([a0, a1, a2, a3, a4, a5, a6, a7].map (Value.int .i64))[j]? = some u → (z1.drew.alloc (.cells (madeCells #[.int .i64 0] 8) 3)).cell? ((⟨w.heap.size, 0, none⟩ : Addr).add j) = some u := by
    intro j u hu
    have h2 : z1.cell? ⟨w.heap.size, j, none⟩ = some u := by rw [cell_of_block hg0, ← Array.getElem?_toList]; exact hu
    have h3 := keep (W := z1) ((Below.refl z1.heap.size z1).drew.alloc (Nat.le_refl _) (.cells (madeCells #[.int .i64 0] 8) 3)) h2
    unfold Addr.add
    split
    · rename_i h0; subst h0; exact h3
    · rw [Nat.zero_add]; exact h3
  have HB0 := Lib.hid hB0
  have Hn := Lib.hid hnews
  have Hlt := Lib.hid hlt
  clear hnews hB0 hg0 hlt
  refine wp_plan_draw [1] [0, 2, 3] (fun _ => True) mixed (by kernel_rfl) (fun c a d v w h => by cases d <;> exact h) trivial ?_
  simp only [picks, List.map_cons, List.map_nil, List.getD_cons_zero, List.getD_cons_succ]
  repeat ((apply ReadRun.go rfl); (intro w1 hS; go_simp; first | done | exact rfl); (simp only [Act.put, List.setIfInBounds_toArray, List.set_cons_zero, List.set_cons_succ]))
  refine ReadRun.done ?_
  refine TailRun.go rfl (fun K hK => ?_)
  go_wp2_with fail
  refine ⟨trivial, ?_⟩
  try simp only [Act.put, List.setIfInBounds_toArray, List.set_cons_zero, List.set_cons_succ]
  refine TailRun.go rfl (fun K hK => ?_)
  refine wp_append_own _ (.tmp 6) (.tmp 7) 42 rfl z1.heap.size 3 i0 (.int .i64 0) 1 8 Try.underlying42 HI.out.1 HI.out.2.1 HI.out.2.2.1 HI.out.2.2.2 rfl (by decide) _ 0 [] rfl (World.ownsRow_made z1.drew _ 8 (Nat.le_refl _) (by decide) (by rw [size_madeCells]; first | done | omega)) ⟨w.heap.size, 0, none⟩ 8 8 ([a0, a1, a2, a3, a4, a5, a6, a7].map (Value.int .i64)) rfl (by simp) Hn.out (by simp [Value.oneCell']) (by unfold maxLen; omega) (by omega) (by simp) ?_
  intro v' w' hown hg _
  have hbel : Below z1.heap.size z1 w' := ((Below.refl z1.heap.size z1).drew.alloc (Nat.le_refl _) _).grown hg (by simp) (fun k hk => by cases hk; exact Nat.le_refl _)
  refine hK _ _ ⟨trivial, ?_⟩
  try simp only [Act.put, List.setIfInBounds_toArray, List.set_cons_zero, List.set_cons_succ]
  refine TailRun.go rfl (fun K hK => ?_)
  go_wp2_with fail
  refine ⟨trivial, ?_⟩
  refine TailRun.done ?_
  have HO := Lib.hid (And.intro hown hbel)
  clear hown hbel hg
  go_wp2
  go_ret
  have hB := HB0.out.trans (HO.out.2.mono HB0.out.size)
  have ho : OwnL eltI w' z1.heap.size v' [a0, a1, a2, a3, a4, a5, a6, a7] := ⟨by rw [flat_ints]; simpa [eltI] using HO.out.1⟩
  obtain ⟨a, c, rfl, hI⟩ := ho.ints Hx.out.fit
  exact ⟨a, c, rfl, hI, hB⟩


def intsA (f : Nat → Int) : Array Value := #[.int .i64 (f 0), .int .i64 (f 1), .int .i64 (f 2), .int .i64 (f 3), .int .i64 (f 4), .int .i64 (f 5), .int .i64 (f 6), .int .i64 (f 7)]
theorem intsA_get (f : Nat → Int) {i : Nat} (h : i < 8) : (intsA f)[i]? = some (.int .i64 (f i)) := by
  rcases lt8 h with rfl | rfl | rfl | rfl | rfl | rfl | rfl | rfl <;> rfl
theorem intsA_set (f : Nat → Int) {i : Nat} (h : i < 8) (v : Int) : (intsA f).setIfInBounds i (.int .i64 v) = intsA (upd f i v) := by
  rcases lt8 h with rfl | rfl | rfl | rfl | rfl | rfl | rfl | rfl <;> rfl
/-- Eight counts under work. -/
structure CntAt (f : Nat → Int) (g : Nat) (wo wx : World) : Prop where
  row : wx.heap[g]? = some (.cells (intsA f) 3 (0, 0))
  below : Below g wo wx
theorem CntAt.lt {f : Nat → Int} {g : Nat} {wo wx : World} (h : CntAt f g wo wx) : g < wx.heap.size := (Array.getElem?_eq_some_iff.1 h.row).1
theorem CntAt.of {f f' : Nat → Int} {g : Nat} {wo wx : World} (h : CntAt f g wo wx) (e : f = f') : CntAt f' g wo wx := by subst e; exact h
theorem CntAt.set {f : Nat → Int} {g : Nat} {wo wx : World} (h : CntAt f g wo wx) {i : Nat} (hi : i < 8) (v : Int) : CntAt (upd f i v) g wo (wx.setCell ⟨g, i, none⟩ (.int .i64 v)) :=
  ⟨by rw [← intsA_set f hi]; exact set_block h.row _, h.below.setCell (p := ⟨g, i, none⟩) (Nat.le_refl _) _⟩
theorem CntAt.get {f : Nat → Int} {g : Nat} {wo wx : World} (h : CntAt f g wo wx) {i : Nat} (hi : i < 8) : wx.cell? ⟨g, i, none⟩ = some (.int .i64 (f i)) ∧ wx.frozen? ⟨g, i, none⟩ = false :=
  ⟨by rw [cell_of_block h.row]; exact intsA_get f hi, free_of_block h.row⟩
def ints8 (f : Nat → Int) : List Int := [f 0, f 1, f 2, f 3, f 4, f 5, f 6, f 7]
theorem CntAt.ints {f : Nat → Int} {g : Nat} {wo wx : World} (h : CntAt f g wo wx) (hf : ∀ i, Fit (f i)) : IsInts wx (some ⟨g, 0, none⟩) 8 8 (ints8 f) := by
  refine ⟨⟨rfl, fun _ => ⟨g, 0, rfl, fun j u hu => ?_⟩⟩, rfl, Nat.le_refl _, by unfold maxLen; omega, fun e he => ?_⟩
  · rw [Nat.zero_add]
    have hj : j < 8 := (List.getElem?_eq_some_iff.1 hu).1
    rw [(h.get hj).1]
    rcases lt8 hj with rfl | rfl | rfl | rfl | rfl | rfl | rfl | rfl <;> exact hu
  · simp only [ints8, List.mem_cons, List.not_mem_nil, or_false] at he
    rcases he with rfl | rfl | rfl | rfl | rfl | rfl | rfl | rfl <;> exact hf _
theorem cnt_yes {r : Nat → Nat → Bool} {th : Nat → Int} {j K tn : Nat} (hq : (K == j || hbB r K j) = true) (ht : th K = (tn : Int)) :
    upd (fun t => (cntV r th j (t : Int) K : Int)) tn ((cntV r th j (tn : Int) K : Int) + 1) = fun t : Nat => (cntV r th j (t : Int) (K + 1) : Int) := by
  funext t
  unfold upd
  by_cases h : t = tn
  · subst h
    rw [if_pos rfl, cntV_succ, hq, ht]
    simp
  · rw [if_neg h, cntV_succ, hq, ht]
    have : ((tn : Int) == (t : Int)) = false := by simp; omega
    rw [this]; simp
theorem cnt_no {r : Nat → Nat → Bool} {th : Nat → Int} {j K : Nat} (hq : (K == j || hbB r K j) = false) :
    (fun t : Nat => (cntV r th j (t : Int) K : Int)) = fun t : Nat => (cntV r th j (t : Int) (K + 1) : Int) := by
  funext t
  rw [cntV_succ, hq]
  simp
noncomputable def clkP (r : Nat → Nat → Bool) (l : List Ev) (n : Nat) (i : Int) : List Int := if inN n i then vec r (thE l) i.toNat else []
theorem clk_is {r : Nat → Nat → Bool} {l : List Ev} {n : Nat} (hg : GoodL n l) (hr : ∀ i j, thE l i = thE l j → r i j = true) {k : Nat} (hk : k < n) : ints8 (fun t => (cntV r (thE l) k (t : Int) n : Int)) = clkP r l n (k : Int) := by
  unfold clkP
  rw [inN_nat, decide_eq_true hk, if_pos rfl]
  have hl := vec_len r (thE l) k
  have hv := fun (t : Nat) (ht : t < 8) => vec_cnt (r := r) (th := thE l) (n := n) (fun i hi => hg.th hi) (fun i j _ _ e => hr i j e) hk ht
  obtain ⟨a0, a1, a2, a3, a4, a5, a6, a7, he⟩ := len8 hl
  rw [Int.toNat_natCast, he]
  rw [he] at hv
  simp only [ints8]
  rw [← hv 0 (by omega), ← hv 1 (by omega), ← hv 2 (by omega), ← hv 3 (by omega), ← hv 4 (by omega), ← hv 5 (by omega), ← hv 6 (by omega), ← hv 7 (by omega)]
  rfl
theorem made8 : madeCells #[.int .i64 0] 8 = intsA (fun _ => 0) := by apply Array.toList_inj.1; rw [toList_madeCells_one]; rfl


set_option maxRecDepth 20000 in
set_option maxHeartbeats 4000000 in
theorem rclock_calls {w : World} {rb : Nat} {a0 : Option Addr} {n c : Nat} {v1 v2 : Value} {l : List Ev} (h : ROrdAt w rb a0 n c v1 v2 l) (hg : GoodL n l) (i : Int) :
    Calls Try.prog 27 #[.pointer (some ⟨rb, 0, none⟩), .int .i64 i, .bool false] w (IntsPost w (clkP (rD l) l n i)) := by
  have hp := rplace_calls h i
  rcases inN_cases n i with hi | ⟨ki, rfl, hki⟩
  · have Hv : Hid (clkP (rD l) l n i = []) := by unfold Hid clkP; rw [hi]; rfl
    rw [hi] at hp
    have Hp := Lib.hid hp
    clear hp hi
    rw [Hv.out]
    go_enter Try.func27, Try.ntmps27
    go_wp2_with fail
    refine Hp.out.mono ?_
    rintro e w' ⟨rfl, rfl⟩
    go_wp2
    go_ret
    exact ⟨_, _, rfl, ints_nil w, Below.refl _ _⟩
  · rw [inN_nat, decide_eq_true hki] at hp
    have Hp := Lib.hid hp
    have hn100 := hg.le
    have hnm : n ≤ 9223372036854775807 := by omega
    have hnc := h.evs.le
    have hc0 : w.cell? ⟨rb, 0, none⟩ = some (.slice a0 n c) := cell_of_block h.blk
    obtain ⟨B, hm⟩ := h.m1
    obtain ⟨x, co, g, hv, cx, hnco, hgc⟩ := hm.read hki
    have hcv : w.cell? ⟨rb, 1, none⟩ = some (.slice (some ⟨x, 0, none⟩) n co) := by rw [← hv]; exact cell_of_block h.blk
    have He := Lib.hid h.evs
    have HG := Lib.hid hg
    have Hgc := Lib.hid hgc
    have Hk := Lib.hid (clk_is (r := rD l) hg (fun i j e => rD_same e) hki)
    clear hp h hm hv hgc hg
    have hmk : ∀ W : World, (Instr.makeSlice 42 (.int .i64 8) (.int .i64 8)).run Try.prog W = .ok (.slice (some ⟨W.heap.size, 0, none⟩) 8 8) (W.alloc (.cells (intsA fun _ => 0) 3)) := fun W => by
      have := run_make_row' (P := Try.prog) 42 3 (.int .i64 0) 8 Try.underlying42 infoInt rfl .i64 .i64 8 (by omega) (by omega) W
      rw [made8] at this
      exact this
    rw [← Hk.out]
    go_enter Try.func27, Try.ntmps27
    go_wp2_with fail
    refine Hp.out.mono ?_
    rintro e w' ⟨rfl, rfl⟩
    go_wp2_with fail
    have HS : Hid (CntAt (fun t => (cntV (rD l) (thE l) ki (t : Int) 0 : Int)) w.heap.size w (w.alloc (.cells (intsA fun _ => 0) 3))) := ⟨(MapKept.heap_alloc w _).1, (Below.refl _ w).alloc (Nat.le_refl _) _⟩
    go_loopw [9] (fun v wr => ∃ K : Nat, K ≤ n ∧ v = .int .i64 K ∧ Hid (CntAt (fun t => (cntV (rD l) (thE l) ki (t : Int) K : Int)) w.heap.size w wr)) (fun v _ => n - (intOf v).toNat)
    case atStart => exact ⟨0, Nat.zero_le _, rfl, HS⟩
    case round =>
      obtain ⟨K, hK, rfl, HR⟩ := hrel
      clear HS
      have hc0 := keep HR.out.below hc0
      by_cases hKn : K < n
      · obtain ⟨bl, off, e, rfl, hx, _, d0, _⟩ := He.out.at hKn
        have d0 := keep HR.out.below d0
        have hcv := keep HR.out.below hcv
        have cx := keep HR.out.below cx
        have cg := keep HR.out.below (Hgc.out K hKn)
        have hth := HG.out.th hKn
        rw [thE_of hx] at hth
        obtain ⟨et, ek, eo, ev, eb⟩ := e
        simp only at hth d0
        obtain ⟨tn, rfl⟩ := Int.eq_ofNat_of_zero_le hth.1
        have htn : tn < 8 := by omega
        have Ht : Hid (thE l K = (tn : Int)) := thE_of hx
        obtain ⟨q1, q2⟩ := HR.out.get htn
        have hle := cntV_le (rD l) (thE l) ki (tn : Int) K
        have Hw : Hid (RowKit.wrap64 ((cntV (rD l) (thE l) ki (tn : Int) K : Int) + 1) = (cntV (rD l) (thE l) ki (tn : Int) K : Int) + 1) := wrap64_fit (by omega) (by omega)
        clear hx hle
        by_cases hKk : K = ki
        · have Hq : Hid ((K == ki || hbB (rD l) K ki) = true) := by unfold Hid; simp [hKk]
          have hkk : ((K : Int) == (ki : Int)) = true := by simp; omega
          have Hy := Lib.hid (cnt_yes Hq.out Ht.out)
          generalize (cntV (rD l) (thE l) ki (tn : Int) K : Int) = z at *
          clear hKk cg cx hcv
          go_wp2
          rw [Hw.out]
          go_roundw
          case rel => exact ⟨K + 1, by omega, by go_num, (HR.out.set htn (z + 1)).of Hy.out⟩
          case measure => simp [intOf]; omega
        · have hkk : ((K : Int) == (ki : Int)) = false := by simp; omega
          rcases Bool.eq_false_or_eq_true (hbB (rD l) K ki) with hb | hb
          · have Hq : Hid ((K == ki || hbB (rD l) K ki) = true) := by unfold Hid; simp [hb]
            have Hy := Lib.hid (cnt_yes Hq.out Ht.out)
            rw [hb] at cg
            generalize (cntV (rD l) (thE l) ki (tn : Int) K : Int) = z at *
            clear hb hKk
            go_wp2
            rw [Hw.out]
            go_roundw
            case rel => exact ⟨K + 1, by omega, by go_num, (HR.out.set htn (z + 1)).of Hy.out⟩
            case measure => simp [intOf]; omega
          · have Hq : Hid ((K == ki || hbB (rD l) K ki) = false) := by
              unfold Hid
              have : (K == ki) = false := by simpa using hKk
              simp [this, hb]
            have Hy := Lib.hid (cnt_no (th := thE l) Hq.out)
            rw [hb] at cg
            generalize (cntV (rD l) (thE l) ki (tn : Int) K : Int) = z at *
            clear hb hKk
            go_wp2
            go_roundw
            case rel => exact ⟨K + 1, by omega, by go_num, HR.out.of Hy.out⟩
            case measure => simp [intOf]; omega
      · have hKe : K = n := by omega
        subst hKe
        go_wp2
        go_ret
        exact ⟨_, _, rfl, HR.out.ints (fun t => by have := cntV_le (rD l) (thE l) ki (t : Int) K; exact Fit.of (by omega) (by omega)), by have := HR.out.below; exact this⟩


set_option maxRecDepth 20000 in
set_option maxHeartbeats 4000000 in
theorem rsclock_calls {w : World} {rb : Nat} {a0 : Option Addr} {n c : Nat} {v1 v2 : Value} {l : List Ev} (h : ROrdAt w rb a0 n c v1 v2 l) (hg : GoodL n l) (i : Int) :
    Calls Try.prog 27 #[.pointer (some ⟨rb, 0, none⟩), .int .i64 i, .bool true] w (IntsPost w (clkP (rS l) l n i)) := by
  have hp := rplace_calls h i
  rcases inN_cases n i with hi | ⟨ki, rfl, hki⟩
  · have Hv : Hid (clkP (rS l) l n i = []) := by unfold Hid clkP; rw [hi]; rfl
    rw [hi] at hp
    have Hp := Lib.hid hp
    clear hp hi
    rw [Hv.out]
    go_enter Try.func27, Try.ntmps27
    go_wp2_with fail
    refine Hp.out.mono ?_
    rintro e w' ⟨rfl, rfl⟩
    go_wp2
    go_ret
    exact ⟨_, _, rfl, ints_nil w, Below.refl _ _⟩
  · rw [inN_nat, decide_eq_true hki] at hp
    have Hp := Lib.hid hp
    have hn100 := hg.le
    have hnm : n ≤ 9223372036854775807 := by omega
    have hnc := h.evs.le
    have hc0 : w.cell? ⟨rb, 0, none⟩ = some (.slice a0 n c) := cell_of_block h.blk
    obtain ⟨B, hm⟩ := h.m2
    obtain ⟨x, co, g, hv, cx, hnco, hgc⟩ := hm.read hki
    have hcv : w.cell? ⟨rb, 2, none⟩ = some (.slice (some ⟨x, 0, none⟩) n co) := by rw [← hv]; exact cell_of_block h.blk
    have He := Lib.hid h.evs
    have HG := Lib.hid hg
    have Hgc := Lib.hid hgc
    have Hk := Lib.hid (clk_is (r := rS l) hg (fun i j e => rS_same e) hki)
    clear hp h hm hv hgc hg
    have hmk : ∀ W : World, (Instr.makeSlice 42 (.int .i64 8) (.int .i64 8)).run Try.prog W = .ok (.slice (some ⟨W.heap.size, 0, none⟩) 8 8) (W.alloc (.cells (intsA fun _ => 0) 3)) := fun W => by
      have := run_make_row' (P := Try.prog) 42 3 (.int .i64 0) 8 Try.underlying42 infoInt rfl .i64 .i64 8 (by omega) (by omega) W
      rw [made8] at this
      exact this
    rw [← Hk.out]
    go_enter Try.func27, Try.ntmps27
    go_wp2_with fail
    refine Hp.out.mono ?_
    rintro e w' ⟨rfl, rfl⟩
    go_wp2_with fail
    have HS : Hid (CntAt (fun t => (cntV (rS l) (thE l) ki (t : Int) 0 : Int)) w.heap.size w (w.alloc (.cells (intsA fun _ => 0) 3))) := ⟨(MapKept.heap_alloc w _).1, (Below.refl _ w).alloc (Nat.le_refl _) _⟩
    go_loopw [9] (fun v wr => ∃ K : Nat, K ≤ n ∧ v = .int .i64 K ∧ Hid (CntAt (fun t => (cntV (rS l) (thE l) ki (t : Int) K : Int)) w.heap.size w wr)) (fun v _ => n - (intOf v).toNat)
    case atStart => exact ⟨0, Nat.zero_le _, rfl, HS⟩
    case round =>
      obtain ⟨K, hK, rfl, HR⟩ := hrel
      clear HS
      have hc0 := keep HR.out.below hc0
      by_cases hKn : K < n
      · obtain ⟨bl, off, e, rfl, hx, _, d0, _⟩ := He.out.at hKn
        have d0 := keep HR.out.below d0
        have hcv := keep HR.out.below hcv
        have cx := keep HR.out.below cx
        have cg := keep HR.out.below (Hgc.out K hKn)
        have hth := HG.out.th hKn
        rw [thE_of hx] at hth
        obtain ⟨et, ek, eo, ev, eb⟩ := e
        simp only at hth d0
        obtain ⟨tn, rfl⟩ := Int.eq_ofNat_of_zero_le hth.1
        have htn : tn < 8 := by omega
        have Ht : Hid (thE l K = (tn : Int)) := thE_of hx
        obtain ⟨q1, q2⟩ := HR.out.get htn
        have hle := cntV_le (rS l) (thE l) ki (tn : Int) K
        have Hw : Hid (RowKit.wrap64 ((cntV (rS l) (thE l) ki (tn : Int) K : Int) + 1) = (cntV (rS l) (thE l) ki (tn : Int) K : Int) + 1) := wrap64_fit (by omega) (by omega)
        clear hx hle
        by_cases hKk : K = ki
        · have Hq : Hid ((K == ki || hbB (rS l) K ki) = true) := by unfold Hid; simp [hKk]
          have hkk : ((K : Int) == (ki : Int)) = true := by simp; omega
          have Hy := Lib.hid (cnt_yes Hq.out Ht.out)
          generalize (cntV (rS l) (thE l) ki (tn : Int) K : Int) = z at *
          clear hKk cg cx hcv
          go_wp2
          rw [Hw.out]
          go_roundw
          case rel => exact ⟨K + 1, by omega, by go_num, (HR.out.set htn (z + 1)).of Hy.out⟩
          case measure => simp [intOf]; omega
        · have hkk : ((K : Int) == (ki : Int)) = false := by simp; omega
          rcases Bool.eq_false_or_eq_true (hbB (rS l) K ki) with hb | hb
          · have Hq : Hid ((K == ki || hbB (rS l) K ki) = true) := by unfold Hid; simp [hb]
            have Hy := Lib.hid (cnt_yes Hq.out Ht.out)
            rw [hb] at cg
            generalize (cntV (rS l) (thE l) ki (tn : Int) K : Int) = z at *
            clear hb hKk
            go_wp2
            rw [Hw.out]
            go_roundw
            case rel => exact ⟨K + 1, by omega, by go_num, (HR.out.set htn (z + 1)).of Hy.out⟩
            case measure => simp [intOf]; omega
          · have Hq : Hid ((K == ki || hbB (rS l) K ki) = false) := by
              unfold Hid
              have : (K == ki) = false := by simpa using hKk
              simp [this, hb]
            have Hy := Lib.hid (cnt_no (th := thE l) Hq.out)
            rw [hb] at cg
            generalize (cntV (rS l) (thE l) ki (tn : Int) K : Int) = z at *
            clear hb hKk
            go_wp2
            go_roundw
            case rel => exact ⟨K + 1, by omega, by go_num, HR.out.of Hy.out⟩
            case measure => simp [intOf]; omega
      · have hKe : K = n := by omega
        subst hKe
        go_wp2
        go_ret
        exact ⟨_, _, rfl, HR.out.ints (fun t => by have := cntV_le (rS l) (thE l) ki (t : Int) K; exact Fit.of (by omega) (by omega)), by have := HR.out.below; exact this⟩


set_option maxRecDepth 20000 in
set_option maxHeartbeats 4000000 in
theorem oclock_calls {w : World} {B b : Nat} {v : Value} {l : List Ev} {n : Nat} (h : OrdAt w B b v l n) (hg : GoodL n l) (i : Int) :
    Calls Try.prog 26 #[.pointer (some ⟨b, 0, none⟩), .int .i64 i] w (IntsPost w (clkP (rD l) l n i)) := by
  have hp := place_calls h hg.le i
  rcases inN_cases n i with hi | ⟨ki, rfl, hki⟩
  · have Hv : Hid (clkP (rD l) l n i = []) := by unfold Hid clkP; rw [hi]; rfl
    rw [hi] at hp
    have Hp := Lib.hid hp
    clear hp hi
    rw [Hv.out]
    go_enter Try.func26, Try.ntmps26
    go_wp2_with fail
    refine Hp.out.mono ?_
    rintro e w' ⟨rfl, rfl⟩
    go_wp2
    go_ret
    exact ⟨_, _, rfl, ints_nil w, Below.refl _ _⟩
  · have Hv : Hid (clkP (rD l) l n (ki : Int) = vec (rD l) (thE l) ki) := by unfold Hid clkP; rw [inN_nat, decide_eq_true hki]; rfl
    rw [inN_nat, decide_eq_true hki] at hp
    have Hp := Lib.hid hp
    obtain ⟨a, c, rfl, cb, hrd⟩ := h.read
    obtain ⟨g, rfl, _, _, _, hci⟩ := hrd ki hki
    have hn100 := hg.le
    have hnm : n ≤ 9223372036854775807 := by omega
    have hth := hg.th hki
    have hpos : ∃ t, t < 8 ∧ (vec (rD l) (thE l) ki).getD t 0 ≠ 0 := by
      refine ⟨(thE l ki).toNat, by omega, ?_⟩
      have := (vec_known (r := rD l) (th := thE l) (n := n) (fun i hi => hg.th hi) (fun i j _ _ e => rD_same e) hki hki).2 (.inl rfl)
      unfold numT at this
      omega
    have Hl : Hid (∀ W, Calls Try.prog 61 #[.agg (vecC (vec (rD l) (thE l) ki))] W (IntsPost W (vec (rD l) (thE l) ki))) := fun W => olist_calls W (vec_cv _ _ (by omega)) hpos
    have Hci := Lib.hid hci
    clear hp hrd hci hpos hth
    rw [Hv.out]
    go_enter Try.func26, Try.ntmps26
    go_wp2_with fail
    refine Hp.out.mono ?_
    rintro e w' ⟨rfl, rfl⟩
    have hld : ∀ (K : Act → World → Prop) (Q : Exit → Act → World → Prop) (o : Oper) (a : Act) (x : Operand), o.op = .load 71 x → a.eval x = .pointer (some ⟨g, ki * 19 + 2, none⟩) → K (a.put o.dst (.agg (vecC (vec (rD l) (thE l) ki)))) w → o.wp Try.prog a w K Q := fun K Q o a x ho hx hK =>
      wp_load_at 71 x ho g (ki * 19 + 2) hx (vecC (vec (rD l) (thE l) ki)) _ (fun u y hy => by rw [Nat.add_assoc]; exact Hci.out _ y (mom_full hy)) Try.underlying71 rfl sizeCounts hK
    have Hld := Lib.hid hld
    clear hld
    go_wp2_with (first | (refine wpList_plain rfl fun _ hK => Hld.out _ _ _ _ (.tmp 15) rfl rfl (hK _ _ ?_)))
    (with_reducible refine (Hl.out _).mono ?_)
    rintro e w2 ⟨a2, c2, rfl, hI, hb⟩
    have HI := Lib.hid (And.intro hI hb)
    clear hI hb
    go_wp2
    go_ret
    exact ⟨_, _, rfl, HI.out.1, HI.out.2⟩


set_option maxRecDepth 20000 in
set_option maxHeartbeats 4000000 in
theorem osclock_calls {w : World} {B b : Nat} {v : Value} {l : List Ev} {n : Nat} (h : OrdAt w B b v l n) (hg : GoodL n l) (i : Int) :
    Calls Try.prog 28 #[.pointer (some ⟨b, 0, none⟩), .int .i64 i] w (IntsPost w (clkP (rS l) l n i)) := by
  have hp := place_calls h hg.le i
  rcases inN_cases n i with hi | ⟨ki, rfl, hki⟩
  · have Hv : Hid (clkP (rS l) l n i = []) := by unfold Hid clkP; rw [hi]; rfl
    rw [hi] at hp
    have Hp := Lib.hid hp
    clear hp hi
    rw [Hv.out]
    go_enter Try.func28, Try.ntmps28
    go_wp2_with fail
    refine Hp.out.mono ?_
    rintro e w' ⟨rfl, rfl⟩
    go_wp2
    go_ret
    exact ⟨_, _, rfl, ints_nil w, Below.refl _ _⟩
  · have Hv : Hid (clkP (rS l) l n (ki : Int) = vec (rS l) (thE l) ki) := by unfold Hid clkP; rw [inN_nat, decide_eq_true hki]; rfl
    rw [inN_nat, decide_eq_true hki] at hp
    have Hp := Lib.hid hp
    obtain ⟨a, c, rfl, cb, hrd⟩ := h.read
    obtain ⟨g, rfl, _, _, _, hci⟩ := hrd ki hki
    have hn100 := hg.le
    have hnm : n ≤ 9223372036854775807 := by omega
    have hth := hg.th hki
    have hpos : ∃ t, t < 8 ∧ (vec (rS l) (thE l) ki).getD t 0 ≠ 0 := by
      refine ⟨(thE l ki).toNat, by omega, ?_⟩
      have := (vec_known (r := rS l) (th := thE l) (n := n) (fun i hi => hg.th hi) (fun i j _ _ e => rS_same e) hki hki).2 (.inl rfl)
      unfold numT at this
      omega
    have Hl : Hid (∀ W, Calls Try.prog 61 #[.agg (vecC (vec (rS l) (thE l) ki))] W (IntsPost W (vec (rS l) (thE l) ki))) := fun W => olist_calls W (vec_cv _ _ (by omega)) hpos
    have Hci := Lib.hid hci
    clear hp hrd hci hpos hth
    rw [Hv.out]
    go_enter Try.func28, Try.ntmps28
    go_wp2_with fail
    refine Hp.out.mono ?_
    rintro e w' ⟨rfl, rfl⟩
    have hld : ∀ (K : Act → World → Prop) (Q : Exit → Act → World → Prop) (o : Oper) (a : Act) (x : Operand), o.op = .load 71 x → a.eval x = .pointer (some ⟨g, ki * 19 + 10, none⟩) → K (a.put o.dst (.agg (vecC (vec (rS l) (thE l) ki)))) w → o.wp Try.prog a w K Q := fun K Q o a x ho hx hK =>
      wp_load_at 71 x ho g (ki * 19 + 10) hx (vecC (vec (rS l) (thE l) ki)) _ (fun u y hy => by rw [Nat.add_assoc]; exact Hci.out _ y (mom_sync hy)) Try.underlying71 rfl sizeCounts hK
    have Hld := Lib.hid hld
    clear hld
    go_wp2_with (first | (refine wpList_plain rfl fun _ hK => Hld.out _ _ _ _ (.tmp 15) rfl rfl (hK _ _ ?_)))
    (with_reducible refine (Hl.out _).mono ?_)
    rintro e w2 ⟨a2, c2, rfl, hI, hb⟩
    have HI := Lib.hid (And.intro hI hb)
    clear hI hb
    go_wp2
    go_ret
    exact ⟨_, _, rfl, HI.out.1, HI.out.2⟩


set_option maxRecDepth 20000 in
set_option maxHeartbeats 8000000 in
theorem orderClocks_law {w : World} {a0 : Option Addr} {n c : Nat} {l : List Ev} (h : IsEvs w a0 n c l) (i : Int) :
    Calls Try.prog 6 #[.slice a0 n c, .int .i64 i] w fun e w' => e = .returned (.bool true) ∧ Below w.heap.size w w' := by
  have hnm : n ≤ 9223372036854775807 := by have := h.le; have := h.cap; unfold maxLen at *; omega
  have Hev := Lib.hid h
  clear h
  go_enter Try.func6, Try.ntmps6
  go_wp2_with fail
  refine (oawake_calls _).mono ?_
  rintro e w1 ⟨rfl, hb1⟩
  have Hc := Lib.hid (both_calls (Hev.out.below hb1))
  have HB1 := Lib.hid hb1
  clear hb1
  go_wp2_with fail
  refine Hc.out.mono ?_
  rintro e w2 ⟨hb2, ⟨_, rfl⟩ | ⟨_, hg, b, v, v1, v2, B, rfl, hO, hM1, hM2⟩⟩
  · have HB2 := Lib.hid (HB1.out.trans (hb2.mono HB1.out.size))
    clear hb2
    go_wp2
    go_ret
    exact ⟨rfl, HB2.out.alloc HB2.out.size _⟩
  obtain ⟨sa, sp, sq, rfl⟩ := hM1.slice
  obtain ⟨ta, tp, tq, rfl⟩ := hM2.slice
  have hB2 := HB1.out.trans (hb2.mono HB1.out.size)
  have hal : Below w2.heap.size w2 (w2.alloc (.cells #[.slice a0 n c, .slice sa sp sq, .slice ta tp tq] 27)) := (Below.refl _ w2).alloc (Nat.le_refl _) _
  have hR3 : ROrdAt (w2.alloc (.cells #[.slice a0 n c, .slice sa sp sq, .slice ta tp tq] 27)) w2.heap.size a0 n c (.slice sa sp sq) (.slice ta tp tq) l :=
    ⟨(MapKept.heap_alloc w2 _).1, ⟨B, hM1.below hal⟩, ⟨B, hM2.below hal⟩, (Hev.out.below hB2).below hal⟩
  have hB3 := hB2.trans (hal.mono hB2.size)
  have HX := Lib.hid (And.intro (hO.below hal) (And.intro hR3 hB3))
  have HG := Lib.hid hg
  clear hb2 hB2 hal hR3 hB3 hO hM1 hM2 Hc hg
  go_wp2_with fail
  revert HX
  generalize w2.alloc (.cells #[.slice a0 n c, .slice sa sp sq, .slice ta tp tq] 27) = w3
  intro HX
  have HO := Lib.hid HX.out.1
  have HR := Lib.hid HX.out.2.1
  have HB3 := Lib.hid HX.out.2.2
  clear HX
  refine (oclock_calls HO.out HG.out i).mono ?_
  rintro e w4 ⟨x1, y1, rfl, hI1, hb⟩
  have HB := Lib.hid hb
  have HI := Lib.hid hI1
  clear hb hI1
  go_wp2_with fail
  refine (rclock_calls (HR.out.below HB.out) HG.out i).mono ?_
  rintro e w5 ⟨x2, y2, rfl, hI2, hb⟩
  have HB := Lib.hid (HB.out.trans (hb.mono HB.out.size))
  have HI := Lib.hid (And.intro (HI.out.below hb) hI2)
  clear hb hI2
  go_wp2_with fail
  refine (osclock_calls (HO.out.below HB.out) HG.out i).mono ?_
  rintro e w6 ⟨x3, y3, rfl, hI3, hb⟩
  have HB := Lib.hid (HB.out.trans (hb.mono HB.out.size))
  have HI := Lib.hid (And.intro (HI.out.1.below hb) (And.intro (HI.out.2.below hb) hI3))
  clear hb hI3
  go_wp2_with fail
  refine (rsclock_calls (HR.out.below HB.out) HG.out i).mono ?_
  rintro e w7 ⟨x4, y4, rfl, hI4, hb⟩
  have HB := Lib.hid (HB.out.trans (hb.mono HB.out.size))
  have HI := Lib.hid (And.intro (HI.out.1.below hb) (And.intro (HI.out.2.1.below hb) (And.intro (HI.out.2.2.below hb) hI4)))
  clear hb hI4
  go_wp2_with fail
  refine (equal_calls HI.out.1 HI.out.2.1).mono ?_
  rintro e w8 ⟨rfl, hb⟩
  have HB := Lib.hid (HB.out.trans (hb.mono HB.out.size))
  have HI := Lib.hid (And.intro (HI.out.2.2.1.below hb) (HI.out.2.2.2.below hb))
  clear hb
  rw [decide_eq_true rfl]
  go_wp2_with fail
  refine (equal_calls HI.out.1 HI.out.2).mono ?_
  rintro e w9 ⟨rfl, hb⟩
  have HB := Lib.hid (HB.out.trans (hb.mono HB.out.size))
  clear hb
  rw [decide_eq_true rfl]
  go_wp2
  go_ret
  exact ⟨rfl, HB3.out.trans (HB.out.mono HB3.out.size)⟩

end Go.Proofs.Ythooddkoldfebaa
