/-
  EventAccess: what an event does to a cell.
-/
import Derived.Test.YtejcpjhepkhihaaAcc
set_option linter.unusedSimpArgs false
set_option linter.unusedVariables false
namespace Go.Proofs.Ytejcpjhepkhihaa
open Go.ChangeShapes Go.WideShapes Go.ChangeAt Go.RowKit Go.Deep

set_option maxRecDepth 20000 in
set_option maxHeartbeats 8000000 in
theorem access_law {w : World} {a0 : Option Addr} {n c : Nat} {l : List Ev} (h : IsEvs w a0 n c l) (hcap : n * 40 ≤ 140737488355328) :
    Calls Try.prog 8 #[.slice a0 n c] w fun e w' => e = .returned (.bool true) ∧ Below w.heap.size w w' := by
  have hnm : n ≤ 9223372036854775807 := by have := h.le; have := h.cap; unfold maxLen at *; omega
  have Hl := Lib.hid h.len
  rcases ofS_cases l with ⟨S, hR, hSl, hG⟩ | ⟨S, z, p, hR, hz⟩
  · have HR := Lib.hid hR
    have HSl := Lib.hid hSl
    clear hR hSl hG
    go_enter Try.func8, Try.ntmps8
    go_wp2_with fail
    refine (awake_calls _).mono ?_
    rintro e w1 ⟨rfl, hb⟩
    have HB1 := Lib.hid hb
    clear hb
    go_wp2_with fail
    refine (lof_ok (h.below HB1.out) hcap HR.out).mono ?_
    rintro e w2 ⟨b, vl, va, rfl, hL2, hb⟩
    have HB2 := Lib.hid (HB1.out.trans (hb.mono HB1.out.size))
    have HL2 := Lib.hid hL2
    clear hb hL2
    go_wp2_with fail
    refine (rof_ok (h.below HB2.out) HR.out).mono ?_
    rintro e w3 ⟨rfl, hb⟩
    have HB3 := Lib.hid (HB2.out.trans (hb.mono HB2.out.size))
    have HL3 := Lib.hid (HL2.out.below hb)
    clear hb HL2
    go_wp2_with (refine wpList_store_row rfl 34 (.tmp 7) (.tmp 30) rfl w3.heap.size (stArr S.st S.ow) rfl rfl 34 #[.int .i64 0, .int .i64 0, .int .i64 0, .int .i64 0, .int .i64 0, .int .i64 0, .int .i64 0, .int .i64 0, .int .i64 0, .int .i64 0, .int .i64 0, .int .i64 0, .int .i64 0, .int .i64 0, .int .i64 0, .int .i64 0] (MapKept.heap_alloc w3 _).1 infoState rfl (stArr_one _ _) ?_)
    have hrow := (row_made w3 #[.int .i64 0, .int .i64 0, .int .i64 0, .int .i64 0, .int .i64 0, .int .i64 0, .int .i64 0, .int .i64 0, .int .i64 0, .int .i64 0, .int .i64 0, .int .i64 0, .int .i64 0, .int .i64 0, .int .i64 0, .int .i64 0] (stArr S.st S.ow) 34).2
    revert hrow
    generalize ((w3.alloc (.cells #[.int .i64 0, .int .i64 0, .int .i64 0, .int .i64 0, .int .i64 0, .int .i64 0, .int .i64 0, .int .i64 0, .int .i64 0, .int .i64 0, .int .i64 0, .int .i64 0, .int .i64 0, .int .i64 0, .int .i64 0, .int .i64 0] 34)).setRow w3.heap.size (stArr S.st S.ow)) = w4
    intro hb
    have HB4 := Lib.hid (HB3.out.trans (hb.mono HB3.out.size))
    have HL4 := Lib.hid (HL3.out.below hb)
    clear hb HL3
    generalize w1.heap.size = B at *
    go_loopw [10] (fun v wr => ∃ k : Nat, k ≤ n ∧ v = .int .i64 k ∧ Hid (LogAt wr B b vl va S ∧ Below w.heap.size w wr)) (fun v _ => n - (intOf v).toNat)
    case atStart => exact ⟨0, Nat.zero_le _, rfl, ⟨HL4.out, HB4.out⟩⟩
    case round =>
      clear HL4 HB4
      obtain ⟨k, hk, rfl, H⟩ := hrel
      by_cases hlt : k < n
      · obtain ⟨bx, off, x, rfl, hx, _, c0, c1, c2, c3, c4⟩ := h.at hlt
        have c0 := keep H.out.2 c0
        have c1 := keep H.out.2 c1
        have c2 := keep H.out.2 c2
        have c3 := keep H.out.2 c3
        have c4 := keep H.out.2 c4
        have ha : accL S.l (k : Int) = (abOf x.t x.k x.o).acc := by
          unfold accL atL; rw [if_pos (by omega), Int.toNat_natCast, HSl.out, hx]; rfl
        have Ha := Lib.hid ha
        clear ha hx
        go_wp2_with fail
        refine (racc12_calls _ _ _ _ _ _).mono ?_
        rintro e z1 ⟨rfl, hb⟩
        have H := Lib.hid (And.intro (H.out.1.below hb) (H.out.2.trans (hb.mono H.out.2.size)))
        clear hb c0 c1 c2 c3 c4
        generalize (abOf x.t x.k x.o).acc = r at *
        rcases r with _ | ⟨cc, p1, p2⟩
        · simp only [accVal, Option.isSome]
          have hA : Below z1.heap.size z1 (z1.alloc (.cells #[.int .i64 0, .bool false, .bool false] 52)) := (Below.refl _ z1).alloc (Nat.le_refl _) _
          have H := Lib.hid (And.intro (H.out.1.below hA) (H.out.2.trans (hA.mono H.out.2.size)))
          clear hA
          go_wp2_with fail
          refine (lacc_calls H.out.1 _ (by rw [HSl.out, Hl.out]; exact hnm)).mono ?_
          rintro e z2 ⟨rfl, hb⟩
          rw [Ha.out]
          simp only [accVal, Option.isSome]
          have hA : Below z2.heap.size z2 (z2.alloc (.cells #[.int .i64 0, .bool false, .bool false] 52)) := (Below.refl _ z2).alloc (Nat.le_refl _) _
          have hb2 := hb.trans (hA.mono hb.size)
          have G0 := Lib.hid (keep hb (cell_new (w := z1) (t := 52) (cs := #[.int .i64 0, .bool false, .bool false]) (i := 0) rfl))
          have G1 := Lib.hid (keep hb (cell_new (w := z1) (t := 52) (cs := #[.int .i64 0, .bool false, .bool false]) (i := 1) rfl))
          have G2 := Lib.hid (keep hb (cell_new (w := z1) (t := 52) (cs := #[.int .i64 0, .bool false, .bool false]) (i := 2) rfl))
          have g0 := G0.out
          have g1 := G1.out
          have g2 := G2.out
          have hne : z1.heap.size ≠ z2.heap.size := by have := hb.size; simp at this; omega
          have hzz : z1.heap.size < z2.heap.size := by have := hb.size; simp at this; omega
          have HF := Lib.hid (And.intro (H.out.1.below hb2) (H.out.2.trans (hb2.mono H.out.2.size)))
          clear hb hA hb2 H G0 G1 G2
          go_wp2
          go_roundw
          case rel => exact ⟨k + 1, by omega, by go_num, HF.out⟩
          case measure => simp [intOf]; omega
        · simp only [accVal, Option.isSome]
          have hA : Below z1.heap.size z1 (z1.alloc (.cells #[.int .i64 cc, .bool p1, .bool p2] 52)) := (Below.refl _ z1).alloc (Nat.le_refl _) _
          have H := Lib.hid (And.intro (H.out.1.below hA) (H.out.2.trans (hA.mono H.out.2.size)))
          clear hA
          go_wp2_with fail
          refine (lacc_calls H.out.1 _ (by rw [HSl.out, Hl.out]; exact hnm)).mono ?_
          rintro e z2 ⟨rfl, hb⟩
          rw [Ha.out]
          simp only [accVal, Option.isSome]
          have hA : Below z2.heap.size z2 (z2.alloc (.cells #[.int .i64 cc, .bool p1, .bool p2] 52)) := (Below.refl _ z2).alloc (Nat.le_refl _) _
          have hb2 := hb.trans (hA.mono hb.size)
          have G0 := Lib.hid (keep hb (cell_new (w := z1) (t := 52) (cs := #[.int .i64 cc, .bool p1, .bool p2]) (i := 0) rfl))
          have G1 := Lib.hid (keep hb (cell_new (w := z1) (t := 52) (cs := #[.int .i64 cc, .bool p1, .bool p2]) (i := 1) rfl))
          have G2 := Lib.hid (keep hb (cell_new (w := z1) (t := 52) (cs := #[.int .i64 cc, .bool p1, .bool p2]) (i := 2) rfl))
          have g0 := G0.out
          have g1 := G1.out
          have g2 := G2.out
          have hne : z1.heap.size ≠ z2.heap.size := by have := hb.size; simp at this; omega
          have hzz : z1.heap.size < z2.heap.size := by have := hb.size; simp at this; omega
          have HF := Lib.hid (And.intro (H.out.1.below hb2) (H.out.2.trans (hb2.mono H.out.2.size)))
          have HA := Lib.hid hA
          clear hb hA hb2 H
          go_wp2_with fail
          refine (macc_calls HF.out.1 (by rw [HSl.out, Hl.out]; exact hlt) (by rw [Ha.out]; rfl)).mono ?_
          rintro e z3 ⟨rfl, hb⟩
          rw [Ha.out]
          simp only [accVal]
          clear g0 g1 g2
          have g0 := keep (HA.out.trans (hb.mono HA.out.size)) G0.out
          have g1 := keep (HA.out.trans (hb.mono HA.out.size)) G1.out
          have g2 := keep (HA.out.trans (hb.mono HA.out.size)) G2.out
          have hne3 : z1.heap.size ≠ z3.heap.size := by have := hb.size; simp at this; omega
          have hzz3 : z1.heap.size < z3.heap.size := by have := hb.size; simp at this; omega
          have hA : Below z3.heap.size z3 (z3.alloc (.cells #[.int .i64 cc, .bool p1, .bool p2] 52)) := (Below.refl _ z3).alloc (Nat.le_refl _) _
          have hb2 := hb.trans (hA.mono hb.size)
          have HF := Lib.hid (And.intro (HF.out.1.below hb2) (HF.out.2.trans (hb2.mono HF.out.2.size)))
          clear hb hA hb2 HA G0 G1 G2
          go_wp2
          go_roundw
          case rel => exact ⟨k + 1, by omega, by go_num, HF.out⟩
          case measure => simp [intOf]; omega
      · have hkn : k = n := by omega
        have Ha : Hid (accL S.l (-1) = none) := rfl
        have Hb : Hid (accL S.l (n : Int) = none) := by
          unfold Hid accL atL; rw [if_pos (by omega), Int.toNat_natCast, HSl.out, List.getElem?_eq_none (by rw [Hl.out]; omega)]; rfl
        go_wp2_with fail
        refine (lacc_calls H.out.1 _ (by rw [HSl.out, Hl.out]; exact hnm)).mono ?_
        rintro e z1 ⟨rfl, hb⟩
        rw [Ha.out]
        simp only [accVal, Option.isSome]
        have hA : Below z1.heap.size z1 (z1.alloc (.cells #[.int .i64 0, .bool false, .bool false] 52)) := (Below.refl _ z1).alloc (Nat.le_refl _) _
        have hb2 := hb.trans (hA.mono hb.size)
        have H := Lib.hid (And.intro (H.out.1.below hb2) (H.out.2.trans (hb2.mono H.out.2.size)))
        clear hb hA hb2
        go_wp2_with fail
        refine (lacc_calls H.out.1 _ (by rw [HSl.out, Hl.out]; exact hnm)).mono ?_
        rintro e z2 ⟨rfl, hb⟩
        rw [Hb.out]
        simp only [accVal, Option.isSome]
        have hA : Below z2.heap.size z2 (z2.alloc (.cells #[.int .i64 0, .bool false, .bool false] 52)) := (Below.refl _ z2).alloc (Nat.le_refl _) _
        have hb2 := hb.trans (hA.mono hb.size)
        have HF := Lib.hid (H.out.2.trans (hb2.mono H.out.2.size))
        clear hb hA hb2 H
        go_wp2
        go_ret
        exact ⟨rfl, HF.out⟩
  · have HR := Lib.hid hR
    have Hz := Lib.hid hz
    have hz' : (z != 0) = true := by simpa [bne] using hz
    clear hR hz
    go_enter Try.func8, Try.ntmps8
    go_wp2_with fail
    refine (awake_calls _).mono ?_
    rintro e w1 ⟨rfl, hb⟩
    have HB1 := Lib.hid hb
    clear hb
    go_wp2_with fail
    refine (lof_no (h.below HB1.out) hcap HR.out Hz.out).mono ?_
    rintro e w2 ⟨rfl, hb⟩
    have HB2 := Lib.hid (HB1.out.trans (hb.mono HB1.out.size))
    clear hb
    go_wp2_with fail
    refine (rof_no (h.below HB2.out) HR.out Hz.out).mono ?_
    rintro e w3 ⟨rfl, hb⟩
    have HB3 := Lib.hid (HB2.out.trans (hb.mono HB2.out.size))
    clear hb
    go_wp2_with (refine wpList_store_row rfl 34 (.tmp 7) (.tmp 30) rfl w3.heap.size zArr rfl rfl 34 #[.int .i64 0, .int .i64 0, .int .i64 0, .int .i64 0, .int .i64 0, .int .i64 0, .int .i64 0, .int .i64 0, .int .i64 0, .int .i64 0, .int .i64 0, .int .i64 0, .int .i64 0, .int .i64 0, .int .i64 0, .int .i64 0] (MapKept.heap_alloc w3 _).1 infoState rfl zArr_one ?_)
    go_ret
    exact ⟨rfl, HB3.out.trans ((row_made w3 #[.int .i64 0, .int .i64 0, .int .i64 0, .int .i64 0, .int .i64 0, .int .i64 0, .int .i64 0, .int .i64 0, .int .i64 0, .int .i64 0, .int .i64 0, .int .i64 0, .int .i64 0, .int .i64 0, .int .i64 0, .int .i64 0] zArr 34).2.mono HB3.out.size)⟩
end Go.Proofs.Ytejcpjhepkhihaa
