/-
  EventOf: Of takes a list just if each of its events can come.
-/
import Derived.Test.YtejcpjhepkhihaaSame2
set_option linter.unusedSimpArgs false
set_option linter.unusedVariables false
namespace Go.Proofs.Ytejcpjhepkhihaa
open Go.ChangeShapes Go.WideShapes Go.ChangeAt Go.RowKit Go.Deep

theorem ofS_la {l : List Ev} {S : LogS} {z : Int} {p : Nat} (h : ofS l = (S, z, p)) : LaGood S := by
  have := goOf_la l log0 0 la0
  rw [show goOf log0 l 0 = (S, z, p) from h] at this
  exact this

set_option maxRecDepth 20000 in
set_option maxHeartbeats 4000000 in
theorem of_law {w : World} {a0 : Option Addr} {n c : Nat} {l : List Ev} (h : IsEvs w a0 n c l) (hcap : n * 40 ≤ 140737488355328) :
    Calls Try.prog 11 #[.slice a0 n c] w fun e w' => e = .returned (.bool true) ∧ Below w.heap.size w w' := by
  have Hl := Lib.hid h.len
  rcases ofS_cases l with ⟨S, hR, hSl, hG⟩ | ⟨S, z, p, hR, hz⟩
  · have HR := Lib.hid hR
    have HSl := Lib.hid hSl
    have Hla := Lib.hid (ofS_la hR)
    clear hR hSl hG
    go_enter Try.func11, Try.ntmps11
    go_wp2_with fail
    refine (awake_calls _).mono ?_
    rintro e w1 ⟨rfl, hb⟩
    have HB1 := Lib.hid hb
    clear hb
    go_wp2_with fail
    refine (lof_ok (h.below HB1.out) hcap HR.out).mono ?_
    rintro e w2 ⟨b, vl, va, rfl, hL2, hb⟩
    have HB2 := Lib.hid (HB1.out.trans (hb.mono HB1.out.size))
    have HL2 := Lib.hid hL2
    clear hb hL2
    go_wp2_with fail
    refine (rof_ok (h.below HB2.out) HR.out).mono ?_
    rintro e w3 ⟨rfl, hb⟩
    have HB3 := Lib.hid (HB2.out.trans (hb.mono HB2.out.size))
    have HL3 := Lib.hid (HL2.out.below hb)
    clear hb HL2
    go_wp2_with (first | (refine wpList_store_row rfl 34 (.tmp 7) (.tmp 20) rfl w3.heap.size (stArr S.st S.ow) rfl rfl 34 #[.int .i64 0, .int .i64 0, .int .i64 0, .int .i64 0, .int .i64 0, .int .i64 0, .int .i64 0, .int .i64 0, .int .i64 0, .int .i64 0, .int .i64 0, .int .i64 0, .int .i64 0, .int .i64 0, .int .i64 0, .int .i64 0] (MapKept.heap_alloc w3 _).1 infoState rfl (stArr_one _ _) ?_) | (refine wpList_load_row rfl 34 (.tmp 7) rfl w3.heap.size rfl 34 (stArr S.st S.ow) (0, 0) _ (row_made w3 #[.int .i64 0, .int .i64 0, .int .i64 0, .int .i64 0, .int .i64 0, .int .i64 0, .int .i64 0, .int .i64 0, .int .i64 0, .int .i64 0, .int .i64 0, .int .i64 0, .int .i64 0, .int .i64 0, .int .i64 0, .int .i64 0] (stArr S.st S.ow) 34).1 Try.underlying34 rfl (by kernel_rfl) ?_))
    have hrow := (row_made w3 #[.int .i64 0, .int .i64 0, .int .i64 0, .int .i64 0, .int .i64 0, .int .i64 0, .int .i64 0, .int .i64 0, .int .i64 0, .int .i64 0, .int .i64 0, .int .i64 0, .int .i64 0, .int .i64 0, .int .i64 0, .int .i64 0] (stArr S.st S.ow) 34).2
    revert hrow
    generalize ((w3.alloc (.cells #[.int .i64 0, .int .i64 0, .int .i64 0, .int .i64 0, .int .i64 0, .int .i64 0, .int .i64 0, .int .i64 0, .int .i64 0, .int .i64 0, .int .i64 0, .int .i64 0, .int .i64 0, .int .i64 0, .int .i64 0, .int .i64 0] 34)).setRow w3.heap.size (stArr S.st S.ow)) = w4
    intro hb
    have HB4 := Lib.hid (HB3.out.trans (hb.mono HB3.out.size))
    have HL4 := Lib.hid (HL3.out.below hb)
    clear hb HL3
    refine (same_calls HL4.out (by rw [HSl.out]; exact h.below HB4.out) Hla.out hcap).mono ?_
    rintro e w5 ⟨rfl, hb⟩
    have HB5 := Lib.hid (HB4.out.trans (hb.mono HB4.out.size))
    clear hb
    go_wp2
    go_ret
    exact ⟨rfl, HB5.out⟩
  · have HR := Lib.hid hR
    have Hz := Lib.hid hz
    have hz' : (z != 0) = true := by simpa [bne] using hz
    clear hR hz
    go_enter Try.func11, Try.ntmps11
    go_wp2_with fail
    refine (awake_calls _).mono ?_
    rintro e w1 ⟨rfl, hb⟩
    have HB1 := Lib.hid hb
    clear hb
    go_wp2_with fail
    refine (lof_no (h.below HB1.out) hcap HR.out Hz.out).mono ?_
    rintro e w2 ⟨rfl, hb⟩
    have HB2 := Lib.hid (HB1.out.trans (hb.mono HB1.out.size))
    clear hb
    go_wp2_with fail
    refine (rof_no (h.below HB2.out) HR.out Hz.out).mono ?_
    rintro e w3 ⟨rfl, hb⟩
    have HB3 := Lib.hid (HB2.out.trans (hb.mono HB2.out.size))
    clear hb
    go_wp2_with (refine wpList_store_row rfl 34 (.tmp 7) (.tmp 20) rfl w3.heap.size zArr rfl rfl 34 #[.int .i64 0, .int .i64 0, .int .i64 0, .int .i64 0, .int .i64 0, .int .i64 0, .int .i64 0, .int .i64 0, .int .i64 0, .int .i64 0, .int .i64 0, .int .i64 0, .int .i64 0, .int .i64 0, .int .i64 0, .int .i64 0] (MapKept.heap_alloc w3 _).1 infoState rfl zArr_one ?_)
    go_ret
    exact ⟨rfl, HB3.out.trans ((row_made w3 #[.int .i64 0, .int .i64 0, .int .i64 0, .int .i64 0, .int .i64 0, .int .i64 0, .int .i64 0, .int .i64 0, .int .i64 0, .int .i64 0, .int .i64 0, .int .i64 0, .int .i64 0, .int .i64 0, .int .i64 0, .int .i64 0] zArr 34).2.mono HB3.out.size)⟩
end Go.Proofs.Ytejcpjhepkhihaa
