/-
  EventLeaves: what does not depend on an action neither lets it come nor hinders it.
-/
import Derived.Test.YtejcpjhepkhihaaPlain
import Derived.Test.YtejcpjhepkhihaaCanLaw
set_option linter.unusedSimpArgs false
set_option linter.unusedVariables false
namespace Go.Proofs.Ytejcpjhepkhihaa
open Go.ChangeShapes Go.WideShapes Go.ChangeAt Go.RowKit Go.Deep

/-- Two events in blocks of their own, one behind the other. -/
theorem evbox_two1 {w w1 : World} {cs : Array Value} {t : TypeId} {a b c d e : Int} (hb : Below ((w.alloc (.cells #[.int .i64 a, .int .i64 b, .int .i64 c, .int .i64 d, .int .i64 e] 23)).alloc (.cells cs t)).heap.size ((w.alloc (.cells #[.int .i64 a, .int .i64 b, .int .i64 c, .int .i64 d, .int .i64 e] 23)).alloc (.cells cs t)) w1) : EvBox w1 w.heap.size a b c d e := by
  refine EvBox.below ?_ hb
  exact EvBox.below ⟨cell_new rfl, cell_new rfl, cell_new rfl, cell_new rfl, cell_new rfl⟩ ((Below.refl _ _).alloc (Nat.le_refl _) _)
theorem evbox_two2 {w w1 : World} {cs : Array Value} {t : TypeId} {a b c d e : Int} (hb : Below ((w.alloc (.cells cs t)).alloc (.cells #[.int .i64 a, .int .i64 b, .int .i64 c, .int .i64 d, .int .i64 e] 23)).heap.size ((w.alloc (.cells cs t)).alloc (.cells #[.int .i64 a, .int .i64 b, .int .i64 c, .int .i64 d, .int .i64 e] 23)) w1) : EvBox w1 (w.heap.size + 1) a b c d e := by
  refine EvBox.below ?_ hb
  rw [show w.heap.size + 1 = (w.alloc (.cells cs t)).heap.size by simp]
  exact ⟨cell_new rfl, cell_new rfl, cell_new rfl, cell_new rfl, cell_new rfl⟩
theorem below_two {w w1 : World} {o o' : Obj} (hb : Below ((w.alloc o).alloc o').heap.size ((w.alloc o).alloc o') w1) : Below w.heap.size w w1 :=
  Below.trans (((Below.refl _ w).alloc (Nat.le_refl _) o).alloc (by simp) o') (hb.mono (by simp; omega))
theorem two_lt {w w1 : World} {o o' : Obj} (hb : Below ((w.alloc o).alloc o').heap.size ((w.alloc o).alloc o') w1) : w.heap.size + 1 < w1.heap.size := by
  have := hb.size; simp at this; omega
theorem lt_row {w : World} {x : Nat} (z cs : Array Value) (t : TypeId) (h : x < w.heap.size) : x < ((w.alloc (.cells z t)).setRow w.heap.size cs).heap.size := Nat.lt_trans h (row_lt w z cs t)
structure AcBox (w : World) (g : Nat) (k o : Int) : Prop where
  e0 : w.cell? ⟨g, 0, none⟩ = some (.int .i64 k)
  e1 : w.cell? ⟨g, 1, none⟩ = some (.int .i64 o)
theorem AcBox.wrote {R : Nat → Prop} {w w' : World} {g : Nat} {k o : Int} (h : AcBox w g k o) (hw : Wrote R w w') (hn : ¬ R g) : AcBox w' g k o := by
  have hg : g < w.heap.size := World.block_lt_of_cell? w _ h.e0
  exact ⟨(hw.cell (p := ⟨g, 0, none⟩) hg hn).trans h.e0, (hw.cell (p := ⟨g, 1, none⟩) hg hn).trans h.e1⟩
theorem AcBox.below {w w' : World} {g : Nat} {k o : Int} (h : AcBox w g k o) (hb : Below w.heap.size w w') : AcBox w' g k o := h.wrote (R := fun _ => False) (.of_below hb) id

set_option maxRecDepth 20000 in
set_option maxHeartbeats 4000000 in
theorem leaves_law {w : World} {a0 : Option Addr} {n c : Nat} {l : List Ev} (h : IsEvs w a0 n c l) (hcap : (n + 1) * 40 ≤ 140737488355328) (x y : Ev) :
    Calls Try.prog 13 #[.slice a0 n c, .agg #[.int .i64 x.t, .int .i64 x.k, .int .i64 x.o, .int .i64 x.v, .int .i64 x.b], .agg #[.int .i64 y.t, .int .i64 y.k, .int .i64 y.o, .int .i64 y.v, .int .i64 y.b]] w fun e w' => e = .returned (.bool true) ∧ Below w.heap.size w w' := by
  have Hl := Lib.hid h.len
  rcases ofS_cases l with ⟨S, hR, hSl, hG⟩ | ⟨S, z, p, hR, hz⟩
  · have HR := Lib.hid hR
    have HSl := Lib.hid hSl
    have HG := Lib.hid hG
    have hplain : addE S x = 0 → dependsB x.t x.k x.o y.t y.k y.o = false → canB (addS S x) y.t y.k y.o = canB S y.t y.k y.o := leaves_plain
    have Hplain := Lib.hid hplain
    clear hR hSl hG hplain
    obtain ⟨t, k, o, v, b0⟩ := x
    obtain ⟨t', k', o', v', b0'⟩ := y
    simp only at Hplain
    go_enter Try.func13, Try.ntmps13
    go_wp2_with fail
    refine (awake_calls _).mono ?_
    rintro e w1 ⟨rfl, hb⟩
    have E1 := Lib.hid (evbox_two1 hb)
    have E2 := Lib.hid (evbox_two2 hb)
    have HB1 := Lib.hid (below_two hb)
    have Hz1 := Lib.hid (two_lt hb)
    clear hb
    go_wp2_with fail
    refine (rof_ok (h.below HB1.out) HR.out).mono ?_
    rintro e w2 ⟨rfl, hb⟩
    have E1 := Lib.hid (E1.out.below hb)
    have E2 := Lib.hid (E2.out.below hb)
    have hz2 := Nat.lt_of_lt_of_le Hz1.out hb.size
    have HB2 := Lib.hid (HB1.out.trans (hb.mono HB1.out.size))
    clear hb
    have hne1 : w.heap.size ≠ w2.heap.size := by omega
    have hne2 : w.heap.size + 1 ≠ w2.heap.size := by omega
    have E3 := E1.out.below (row_made w2 #[.int .i64 0, .int .i64 0, .int .i64 0, .int .i64 0, .int .i64 0, .int .i64 0, .int .i64 0, .int .i64 0, .int .i64 0, .int .i64 0, .int .i64 0, .int .i64 0, .int .i64 0, .int .i64 0, .int .i64 0, .int .i64 0] (stArr S.st S.ow) 34).2
    obtain ⟨e0, e1, e2, e3, e4⟩ := E3.all
    have E3' := Lib.hid E3
    clear E3
    go_wp2_with (refine wpList_store_row rfl 34 (.tmp 8) (.tmp 24) rfl w2.heap.size (stArr S.st S.ow) rfl rfl 34 #[.int .i64 0, .int .i64 0, .int .i64 0, .int .i64 0, .int .i64 0, .int .i64 0, .int .i64 0, .int .i64 0, .int .i64 0, .int .i64 0, .int .i64 0, .int .i64 0, .int .i64 0, .int .i64 0, .int .i64 0, .int .i64 0] (MapKept.heap_alloc w2 _).1 infoState rfl (stArr_one _ _) ?_)
    have hrow := row_made w2 #[.int .i64 0, .int .i64 0, .int .i64 0, .int .i64 0, .int .i64 0, .int .i64 0, .int .i64 0, .int .i64 0, .int .i64 0, .int .i64 0, .int .i64 0, .int .i64 0, .int .i64 0, .int .i64 0, .int .i64 0, .int .i64 0] (stArr S.st S.ow) 34
    have hlt := lt_row (w := w2) #[.int .i64 0, .int .i64 0, .int .i64 0, .int .i64 0, .int .i64 0, .int .i64 0, .int .i64 0, .int .i64 0, .int .i64 0, .int .i64 0, .int .i64 0, .int .i64 0, .int .i64 0, .int .i64 0, .int .i64 0, .int .i64 0] (stArr S.st S.ow) 34 hz2
    have hblt := row_lt w2 #[.int .i64 0, .int .i64 0, .int .i64 0, .int .i64 0, .int .i64 0, .int .i64 0, .int .i64 0, .int .i64 0, .int .i64 0, .int .i64 0, .int .i64 0, .int .i64 0, .int .i64 0, .int .i64 0, .int .i64 0, .int .i64 0] (stArr S.st S.ow) 34
    have E2 := Lib.hid (E2.out.below hrow.2)
    clear e0 e1 e2 e3 e4
    revert hrow E3' E2 hlt hblt
    generalize ((w2.alloc (.cells #[.int .i64 0, .int .i64 0, .int .i64 0, .int .i64 0, .int .i64 0, .int .i64 0, .int .i64 0, .int .i64 0, .int .i64 0, .int .i64 0, .int .i64 0, .int .i64 0, .int .i64 0, .int .i64 0, .int .i64 0, .int .i64 0] 34)).setRow w2.heap.size (stArr S.st S.ow)) = w3
    generalize w2.heap.size = bs at *
    intro E1 hrow hlt hblt E2
    obtain ⟨hT, hb⟩ := hrow
    have hT : StateAt w3 bs S := hT
    have HB3 := Lib.hid (HB2.out.trans (hb.mono (show w.heap.size ≤ bs by omega)))
    clear hb
    refine (sadd_calls hT HG.out ⟨t, k, o, v, b0⟩).mono ?_
    rintro e w4 ⟨rfl, hT4, hM4⟩
    have hW4 : Wrote (fun q => q = bs) w3 w4 := Wrote.of_grown hM4 (fun q hq => by cases hq; rfl)
    have E1 := Lib.hid (E1.out.wrote hW4 hne1)
    have E2 := Lib.hid (E2.out.wrote hW4 hne2)
    have HB4 := Lib.hid (below_of_mod HB3.out hM4 HB3.out.size (by omega))
    have hz4 : w.heap.size + 1 < w4.heap.size := Nat.lt_of_lt_of_le hlt hM4.size
    clear hT hT4 hM4 hW4 hlt hblt HB3 HB2
    go_wp2_with fail
    refine (lof_ok (h.below HB4.out) (by omega) HR.out).mono ?_
    rintro e w5 ⟨b, vl, va, rfl, hL5, hb⟩
    have E1 := Lib.hid (E1.out.below hb)
    have E2 := Lib.hid (E2.out.below hb)
    have HB5 := Lib.hid (HB4.out.trans (hb.mono HB4.out.size))
    have hbase : ∀ q, logR b vl va q → w4.heap.size ≤ q := hL5.base
    have hup : ∀ q, logR b vl va q → q < w5.heap.size := hL5.rlt
    have hz5 : w.heap.size + 1 < w5.heap.size := Nat.lt_of_lt_of_le hz4 hb.size
    have h50 : w.heap.size < w5.heap.size := by omega
    have h50n : w.heap.size ≠ w5.heap.size := by omega
    have h51n : w.heap.size + 1 ≠ w5.heap.size := by omega
    have HL5 := Lib.hid hL5
    have n1 : ¬ logR b vl va w.heap.size := fun hq => by have := hbase _ hq; omega
    have n2 : ¬ logR b vl va (w.heap.size + 1) := fun hq => by have := hbase _ hq; omega
    have n3 : ¬ logR b vl va w5.heap.size := fun hq => by have := hup _ hq; omega
    have nw : ∀ q, logR b vl va q → w.heap.size ≤ q := fun q hq => by have := hbase _ hq; omega
    have N1 := Lib.hid n1
    have N2 := Lib.hid n2
    have N3 := Lib.hid n3
    have NW := Lib.hid nw
    clear hb hL5 hbase hup n1 n2 n3 nw
    obtain ⟨e0, e1, e2, e3, e4⟩ := E1.out.all
    obtain ⟨f0, f1, f2, f3, f4⟩ := E2.out.all
    go_wp2_with fail
    refine (depends_calls _ _ _ _ _ _ _ _ _ _ _).mono ?_
    rintro e w6 ⟨rfl, hb⟩
    have hA : Below w5.heap.size w5 w6 := Below.trans ((Below.refl _ w5).alloc (Nat.le_refl _) (.cells #[.int .i64 k', .int .i64 o'] 30)) (hb.mono (by simp))
    have A6 := Lib.hid (AcBox.below (g := w5.heap.size) ⟨cell_new (w := w5) (cs := #[.int .i64 k', .int .i64 o']) (t := 30) (i := 0) rfl, cell_new (w := w5) (cs := #[.int .i64 k', .int .i64 o']) (t := 30) (i := 1) rfl⟩ hb)
    have E1 := Lib.hid (E1.out.below hA)
    have E2 := Lib.hid (E2.out.below hA)
    have HL6 := Lib.hid (HL5.out.below hA)
    have HB6 := Lib.hid (HB5.out.trans (hA.mono HB5.out.size))
    clear hb hA e0 e1 e2 e3 e4 f0 f1 f2 f3 f4 HL5 HB5
    obtain ⟨f0, f1, f2, f3, f4⟩ := E2.out.all
    obtain ⟨g0, g1⟩ := A6.out
    go_wp2_with fail
    refine (can_calls HL6.out _ _ _).mono ?_
    rintro e w7 ⟨rfl, hb⟩
    have A7 := Lib.hid (A6.out.below hb)
    have E1 := Lib.hid (E1.out.below hb)
    have E2 := Lib.hid (E2.out.below hb)
    have HL7 := Lib.hid (HL6.out.below hb)
    have HB7 := Lib.hid (HB6.out.trans (hb.mono HB6.out.size))
    clear hb f0 f1 f2 f3 f4 g0 g1 A6 HL6 HB6
    obtain ⟨e0, e1, e2, e3, e4⟩ := E1.out.all
    go_wp2_with fail
    refine (add_calls HL7.out ⟨t, k, o, v, b0⟩ (by rw [HSl.out, Hl.out]; exact hcap)).mono ?_
    rintro e w8 ⟨vl', va', rfl, hL8, hW8, hsub8⟩
    have A8 := Lib.hid (A7.out.wrote hW8 N3.out)
    have E2 := Lib.hid (E2.out.wrote hW8 N2.out)
    have HB8 := Lib.hid (Wrote.below HB7.out hW8 HB7.out.size NW.out)
    have HL8 := Lib.hid hL8
    clear hL8 hW8 hsub8 e0 e1 e2 e3 e4 A7 HL7 HB7 E1
    obtain ⟨f0, f1, f2, f3, f4⟩ := E2.out.all
    obtain ⟨g0, g1⟩ := A8.out
    go_wp2_with fail
    refine (can_calls HL8.out _ _ _).mono ?_
    rintro e w9 ⟨rfl, hb⟩
    have HB9 := Lib.hid (HB8.out.trans (hb.mono HB8.out.size))
    clear hb f0 f1 f2 f3 f4 g0 g1 A8 HL8 HB8 E2 N1 N2 N3 NW
    revert Hplain
    generalize addE S ⟨t, k, o, v, b0⟩ = q
    generalize canB (addS S ⟨t, k, o, v, b0⟩) t' k' o' = q2
    generalize canB S t' k' o' = q1
    generalize dependsB t k o t' k' o' = dd
    intro Hplain
    cases dd
    · by_cases hq : q = 0
      · have hqq := Hplain.out hq rfl
        subst hq hqq
        clear Hplain
        go_wp2
        go_ret
        exact ⟨by simp, HB9.out⟩
      · have hq' : (q != 0) = true := by simpa [bne] using hq
        clear Hplain hq
        go_wp2
        go_ret
        exact ⟨by simp, HB9.out⟩
    · clear Hplain
      go_wp2
      go_ret
      exact ⟨by simp, HB9.out⟩
  · have HR := Lib.hid hR
    have Hz := Lib.hid hz
    have hz' : (z != 0) = true := by simpa [bne] using hz
    clear hR hz
    obtain ⟨t, k, o, v, b0⟩ := x
    obtain ⟨t', k', o', v', b0'⟩ := y
    go_enter Try.func13, Try.ntmps13
    go_wp2_with fail
    refine (awake_calls _).mono ?_
    rintro e w1 ⟨rfl, hb⟩
    have HB1 := Lib.hid (below_two hb)
    clear hb
    go_wp2_with fail
    refine (rof_no (h.below HB1.out) HR.out Hz.out).mono ?_
    rintro e w2 ⟨rfl, hb⟩
    have HB2 := Lib.hid (HB1.out.trans (hb.mono HB1.out.size))
    clear hb
    go_wp2_with (refine wpList_store_row rfl 34 (.tmp 8) (.tmp 24) rfl w2.heap.size zArr rfl rfl 34 #[.int .i64 0, .int .i64 0, .int .i64 0, .int .i64 0, .int .i64 0, .int .i64 0, .int .i64 0, .int .i64 0, .int .i64 0, .int .i64 0, .int .i64 0, .int .i64 0, .int .i64 0, .int .i64 0, .int .i64 0, .int .i64 0] (MapKept.heap_alloc w2 _).1 infoState rfl zArr_one ?_)
    go_ret
    exact ⟨rfl, HB2.out.trans ((row_made w2 #[.int .i64 0, .int .i64 0, .int .i64 0, .int .i64 0, .int .i64 0, .int .i64 0, .int .i64 0, .int .i64 0, .int .i64 0, .int .i64 0, .int .i64 0, .int .i64 0, .int .i64 0, .int .i64 0, .int .i64 0, .int .i64 0] zArr 34).2.mono HB2.out.size)⟩
end Go.Proofs.Ytejcpjhepkhihaa
