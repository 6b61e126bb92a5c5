/-
  EventMust: MustAccess panics just where Access tells false.
-/
import Derived.Test.YtejcpjhepkhihaaMust
set_option linter.unusedSimpArgs false
set_option linter.unusedVariables false
namespace Go.Proofs.Ytejcpjhepkhihaa
open Go.ChangeShapes Go.WideShapes Go.ChangeAt Go.RowKit Go.Deep

set_option maxRecDepth 20000 in
set_option maxHeartbeats 4000000 in
theorem must_law {w : World} {a0 : Option Addr} {n c : Nat} {l : List Ev} (h : IsEvs w a0 n c l) (hcap : n * 40 ≤ 140737488355328) (i : Int) :
    Calls Try.prog 9 #[.slice a0 n c, .int .i64 i] w fun e w' => e = .returned (.bool true) ∧ Below w.heap.size w w' := by
  have hnm : n ≤ 9223372036854775807 := by have := h.le; have := h.cap; unfold maxLen at *; omega
  have Hl := Lib.hid h.len
  rcases ofS_cases l with ⟨S, hR, hSl, hG⟩ | ⟨S, z, p, hR, hz⟩
  · have HR := Lib.hid hR
    have HSl := Lib.hid hSl
    clear hR hSl hG
    go_enter Try.func9, Try.ntmps9
    go_wp2_with fail
    refine (awake_calls _).mono ?_
    rintro e w1 ⟨rfl, hb⟩
    have HB1 := Lib.hid hb
    clear hb
    go_wp2_with fail
    refine (rof_ok (h.below HB1.out) HR.out).mono ?_
    rintro e w2 ⟨rfl, hb⟩
    have HB2 := Lib.hid (HB1.out.trans (hb.mono HB1.out.size))
    clear hb
    go_wp2_with (refine wpList_store_row rfl 34 (.tmp 6) (.tmp 20) rfl w2.heap.size (stArr S.st S.ow) rfl rfl 34 #[.int .i64 0, .int .i64 0, .int .i64 0, .int .i64 0, .int .i64 0, .int .i64 0, .int .i64 0, .int .i64 0, .int .i64 0, .int .i64 0, .int .i64 0, .int .i64 0, .int .i64 0, .int .i64 0, .int .i64 0, .int .i64 0] (MapKept.heap_alloc w2 _).1 infoState rfl (stArr_one _ _) ?_)
    have hrow := (row_made w2 #[.int .i64 0, .int .i64 0, .int .i64 0, .int .i64 0, .int .i64 0, .int .i64 0, .int .i64 0, .int .i64 0, .int .i64 0, .int .i64 0, .int .i64 0, .int .i64 0, .int .i64 0, .int .i64 0, .int .i64 0, .int .i64 0] (stArr S.st S.ow) 34).2
    revert hrow
    generalize ((w2.alloc (.cells #[.int .i64 0, .int .i64 0, .int .i64 0, .int .i64 0, .int .i64 0, .int .i64 0, .int .i64 0, .int .i64 0, .int .i64 0, .int .i64 0, .int .i64 0, .int .i64 0, .int .i64 0, .int .i64 0, .int .i64 0, .int .i64 0] 34)).setRow w2.heap.size (stArr S.st S.ow)) = w3
    intro hb
    have HB3 := Lib.hid (HB2.out.trans (hb.mono HB2.out.size))
    clear hb
    refine (lof_ok (h.below HB3.out) hcap HR.out).mono ?_
    rintro e w4 ⟨b, vl, va, rfl, hL, hb⟩
    have H := Lib.hid (And.intro hL (HB3.out.trans (hb.mono HB3.out.size)))
    clear hb hL
    generalize w3.heap.size = B at *
    go_wp2_with fail
    refine (lacc_calls H.out.1 _ (by rw [HSl.out, Hl.out]; exact hnm)).mono ?_
    rintro e w5 ⟨rfl, hb⟩
    have hpan : panB S.l i = !(accL S.l i).isSome := rfl
    have Hpan := Lib.hid hpan
    clear hpan
    have hA : Below w5.heap.size w5 (w5.alloc (.cells (accVal (accL S.l i)).cells 52)) := (Below.refl _ w5).alloc (Nat.le_refl _) _
    have hb2 := hb.trans (hA.mono hb.size)
    have H := Lib.hid (And.intro (H.out.1.below hb2) (H.out.2.trans (hb2.mono H.out.2.size)))
    clear hb hA hb2
    rcases hr : accL S.l i with _ | ⟨cc, p1, p2⟩
    · rw [hr] at H Hpan
      simp only [accVal, Option.isSome] at H Hpan ⊢
      clear hr
      go_wp2_with fail
      refine (panics_calls H.out.1 _).mono ?_
      rintro e w6 ⟨rfl, hb⟩
      rw [Hpan.out]
      have H := Lib.hid (And.intro (H.out.1.below hb) (H.out.2.trans (hb.mono H.out.2.size)))
      clear hb
      go_wp2_with fail
      refine (len_calls H.out.1).mono ?_
      rintro e w7 ⟨rfl, rfl⟩
      rw [HSl.out, Hl.out]
      go_wp2
      go_ret
      exact ⟨by simp, H.out.2⟩
    · rw [hr] at H Hpan
      simp only [accVal, Option.isSome] at H Hpan ⊢
      clear hr
      go_wp2_with fail
      refine (panics_calls H.out.1 _).mono ?_
      rintro e w6 ⟨rfl, hb⟩
      rw [Hpan.out]
      have H := Lib.hid (And.intro (H.out.1.below hb) (H.out.2.trans (hb.mono H.out.2.size)))
      clear hb
      go_wp2_with fail
      refine (len_calls H.out.1).mono ?_
      rintro e w7 ⟨rfl, rfl⟩
      rw [HSl.out, Hl.out]
      go_wp2
      go_ret
      exact ⟨by simp, H.out.2⟩
  · have HR := Lib.hid hR
    have Hz := Lib.hid hz
    have hz' : (z != 0) = true := by simpa [bne] using hz
    clear hR hz
    go_enter Try.func9, Try.ntmps9
    go_wp2_with fail
    refine (awake_calls _).mono ?_
    rintro e w1 ⟨rfl, hb⟩
    have HB1 := Lib.hid hb
    clear hb
    go_wp2_with fail
    refine (rof_no (h.below HB1.out) HR.out Hz.out).mono ?_
    rintro e w2 ⟨rfl, hb⟩
    have HB2 := Lib.hid (HB1.out.trans (hb.mono HB1.out.size))
    clear hb
    go_wp2_with (refine wpList_store_row rfl 34 (.tmp 6) (.tmp 20) rfl w2.heap.size zArr rfl rfl 34 #[.int .i64 0, .int .i64 0, .int .i64 0, .int .i64 0, .int .i64 0, .int .i64 0, .int .i64 0, .int .i64 0, .int .i64 0, .int .i64 0, .int .i64 0, .int .i64 0, .int .i64 0, .int .i64 0, .int .i64 0, .int .i64 0] (MapKept.heap_alloc w2 _).1 infoState rfl zArr_one ?_)
    go_ret
    exact ⟨rfl, HB2.out.trans ((row_made w2 #[.int .i64 0, .int .i64 0, .int .i64 0, .int .i64 0, .int .i64 0, .int .i64 0, .int .i64 0, .int .i64 0, .int .i64 0, .int .i64 0, .int .i64 0, .int .i64 0, .int .i64 0, .int .i64 0, .int .i64 0, .int .i64 0] zArr 34).2.mono HB2.out.size)⟩
end Go.Proofs.Ytejcpjhepkhihaa
