/-
  OrderOf: Before and Sync of any two places, as the document has them.
-/
import Derived.Test.YthooddkoldfebaaBoth
set_option linter.unusedSimpArgs false
set_option linter.unusedVariables false
namespace Go.Proofs.Ythooddkoldfebaa
open Go.ChangeShapes Go.WideShapes Go.ChangeAt Go.RowKit Go.Deep

set_option maxHeartbeats 2000000 in
theorem olen_calls {w : World} {B b : Nat} {v : Value} {l : List Ev} {n : Nat} (h : OrdAt w B b v l n) :
    Calls Try.prog 23 #[.pointer (some ⟨b, 0, none⟩)] w fun e w' => e = .returned (.int .i64 n) ∧ w = w' := by
  obtain ⟨a, c, rfl, hc, _⟩ := h.read
  go_enter Try.func23, Try.ntmps23
  go_wp2
  go_ret
  exact ⟨rfl, rfl⟩
theorem wrap64_fit {x : Int} (h0 : -9223372036854775808 ≤ x) (h1 : x ≤ 9223372036854775807) : RowKit.wrap64 x = x := by
  unfold RowKit.wrap64
  omega

set_option maxRecDepth 20000 in
set_option maxHeartbeats 4000000 in
theorem orderOf_law {w : World} {a0 : Option Addr} {n c : Nat} {l : List Ev} (h : IsEvs w a0 n c l) :
    Calls Try.prog 5 #[.slice a0 n c] w fun e w' => e = .returned (.bool true) ∧ Below w.heap.size w w' := by
  have hnm : n ≤ 9223372036854775807 := by have := h.le; have := h.cap; unfold maxLen at *; omega
  have Hev := Lib.hid h
  clear h
  go_enter Try.func5, Try.ntmps5
  go_wp2_with fail
  refine (oawake_calls _).mono ?_
  rintro e w1 ⟨rfl, hb1⟩
  have Hc := Lib.hid (both_calls (Hev.out.below hb1))
  have HB1 := Lib.hid hb1
  clear hb1
  go_wp2_with fail
  refine Hc.out.mono ?_
  rintro e w2 ⟨hb2, ⟨_, rfl⟩ | ⟨_, hg, b, v, v1, v2, B, rfl, hO, hM1, hM2⟩⟩
  · have HB2 := Lib.hid (HB1.out.trans (hb2.mono HB1.out.size))
    clear hb2
    go_wp2
    go_ret
    exact ⟨rfl, HB2.out.alloc HB2.out.size _⟩
  obtain ⟨sa, sp, sq, rfl⟩ := hM1.slice
  obtain ⟨ta, tp, tq, rfl⟩ := hM2.slice
  have hB2 := HB1.out.trans (hb2.mono HB1.out.size)
  have hal : Below w2.heap.size w2 (w2.alloc (.cells #[.slice a0 n c, .slice sa sp sq, .slice ta tp tq] 27)) := (Below.refl _ w2).alloc (Nat.le_refl _) _
  have hR3 : ROrdAt (w2.alloc (.cells #[.slice a0 n c, .slice sa sp sq, .slice ta tp tq] 27)) w2.heap.size a0 n c (.slice sa sp sq) (.slice ta tp tq) l :=
    ⟨(MapKept.heap_alloc w2 _).1, ⟨B, hM1.below hal⟩, ⟨B, hM2.below hal⟩, (Hev.out.below hB2).below hal⟩
  have hB3 := hB2.trans (hal.mono hB2.size)
  have HX := Lib.hid (And.intro (hO.below hal) (And.intro hR3 hB3))
  have HG := Lib.hid hg
  clear hb2 hB2 hal hR3 hB3 hO hM1 hM2 Hc hg
  go_wp2_with fail
  revert HX
  generalize w2.alloc (.cells #[.slice a0 n c, .slice sa sp sq, .slice ta tp tq] 27) = w3
  intro HX
  have HO := Lib.hid HX.out.1
  have HR := Lib.hid HX.out.2.1
  have HB3 := Lib.hid HX.out.2.2
  clear HX
  refine (olen_calls HO.out).mono ?_
  rintro e w4 ⟨rfl, rfl⟩
  go_wp2_with fail
  go_loopw [9] (fun i wr => ∃ x : Int, -1 ≤ x ∧ x ≤ n + 1 ∧ i = .int .i64 x ∧ Hid (Below w3.heap.size w3 wr)) (fun i _ => ((n : Int) + 1 - intOf i).toNat)
  case atStart => exact ⟨-1, by omega, by omega, rfl, Below.refl _ _⟩
  case round =>
    obtain ⟨i, hi0, hi1, rfl, HB⟩ := hrel
    have hn100 := HG.out.le
    have Hwi : Hid (RowKit.wrap64 (i + 1) = i + 1) := wrap64_fit (by omega) (by omega)
    by_cases hin : i ≤ n
    · go_wp2_with fail
      have H4 := HB
      clear HB
      go_loopw [10] (fun i wr => ∃ x : Int, -1 ≤ x ∧ x ≤ n + 1 ∧ i = .int .i64 x ∧ Hid (Below w3.heap.size w3 wr)) (fun i _ => ((n : Int) + 1 - intOf i).toNat)
      case atStart => exact ⟨-1, by omega, by omega, rfl, H4⟩
      case round =>
        clear H4
        obtain ⟨j, hj0, hj1, rfl, HB⟩ := hrel
        have Hwj : Hid (RowKit.wrap64 (j + 1) = j + 1) := wrap64_fit (by omega) (by omega)
        by_cases hjn : j ≤ n
        · go_wp2_with fail
          refine (before_calls (HO.out.below HB.out) HG.out i j).mono ?_
          rintro e w4 ⟨rfl, hb⟩
          have HB4 := Lib.hid (HB.out.trans (hb.mono HB.out.size))
          clear hb HB
          go_wp2_with fail
          refine (rbefore_calls (HR.out.below HB4.out) i j).mono ?_
          rintro e w5 ⟨rfl, rfl⟩
          go_wp2_with fail
          refine (sync_calls (HO.out.below HB4.out) HG.out i j).mono ?_
          rintro e w5 ⟨rfl, hb⟩
          have HB5 := Lib.hid (HB4.out.trans (hb.mono HB4.out.size))
          clear hb HB4
          go_wp2_with fail
          refine (rsync_calls (HR.out.below HB5.out) i j).mono ?_
          rintro e w6 ⟨rfl, rfl⟩
          go_wp2
          go_roundw
          case rel => exact ⟨j + 1, by omega, by omega, rfl, HB5⟩
          case measure => have hwj := Hwj.out; simp [intOf, hwj]; omega
        · go_wp2
          go_roundw
          case rel => exact ⟨i + 1, by omega, by omega, rfl, HB⟩
          case measure => have hwi := Hwi.out; simp [intOf, hwi]; omega
    · go_wp2
      go_ret
      exact ⟨rfl, HB3.out.trans (HB.out.mono HB3.out.size)⟩
end Go.Proofs.Ythooddkoldfebaa
