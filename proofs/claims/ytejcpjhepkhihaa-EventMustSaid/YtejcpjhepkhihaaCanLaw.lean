/-
  EventCan: of any action both say the same.
-/
import Derived.Test.YtejcpjhepkhihaaAt
set_option linter.unusedSimpArgs false
set_option linter.unusedVariables false
namespace Go.Proofs.Ytejcpjhepkhihaa
open Go.ChangeShapes Go.WideShapes Go.ChangeAt Go.RowKit Go.Deep

theorem zArr_one : zArr.all (·.oneCell') = true := by simp [zArr, Value.oneCell']

set_option maxHeartbeats 2000000 in
theorem can_law {w : World} {a0 : Option Addr} {n c : Nat} {l : List Ev} (h : IsEvs w a0 n c l) (hcap : n * 40 ≤ 140737488355328) (t k o : Int) :
    Calls Try.prog 6 #[.slice a0 n c, .int .i64 t, .agg #[.int .i64 k, .int .i64 o]] w fun e w' => e = .returned (.bool true) ∧ Below w.heap.size w w' := by
  have Hl := Lib.hid h.len
  rcases ofS_cases l with ⟨S, hR, hSl, hG⟩ | ⟨S, z, p, hR, hz⟩
  · have HR := Lib.hid hR
    have HSl := Lib.hid hSl
    have HG := Lib.hid hG
    clear hR hSl hG
    go_enter Try.func6, Try.ntmps6
    go_wp2_with fail
    refine (awake_calls _).mono ?_
    rintro e w1 ⟨rfl, hb⟩
    have a0c := (keep hb (cell_new (w := w) (t := 30) (cs := #[.int .i64 k, .int .i64 o]) (i := 0) (u := .int .i64 k) rfl))
    have a1c := (keep hb (cell_new (w := w) (t := 30) (cs := #[.int .i64 k, .int .i64 o]) (i := 1) (u := .int .i64 o) rfl))
    have hB1 : Below w.heap.size w w1 := Below.trans (show Below w.heap.size w _ by go_grown) (hb.mono (by simp))
    clear hb
    go_wp2_with fail
    refine (rof_ok (h.below hB1) HR.out).mono ?_
    rintro e w2 ⟨rfl, hb2⟩
    have hB2 : Below w.heap.size w w2 := hB1.trans (hb2.mono hB1.size)
    have a0c := keep hb2 a0c
    have a1c := keep hb2 a1c
    clear hb2 hB1
    go_wp2_with (refine wpList_store_row rfl 34 (.tmp 8) (.tmp 21) rfl w2.heap.size (stArr S.st S.ow) rfl rfl 34 #[.int .i64 0, .int .i64 0, .int .i64 0, .int .i64 0, .int .i64 0, .int .i64 0, .int .i64 0, .int .i64 0, .int .i64 0, .int .i64 0, .int .i64 0, .int .i64 0, .int .i64 0, .int .i64 0, .int .i64 0, .int .i64 0] (MapKept.heap_alloc w2 _).1 infoState rfl (stArr_one _ _) ?_)
    have hrow := row_made w2 #[.int .i64 0, .int .i64 0, .int .i64 0, .int .i64 0, .int .i64 0, .int .i64 0, .int .i64 0, .int .i64 0, .int .i64 0, .int .i64 0, .int .i64 0, .int .i64 0, .int .i64 0, .int .i64 0, .int .i64 0, .int .i64 0] (stArr S.st S.ow) 34
    revert hrow
    generalize ((w2.alloc (.cells #[.int .i64 0, .int .i64 0, .int .i64 0, .int .i64 0, .int .i64 0, .int .i64 0, .int .i64 0, .int .i64 0, .int .i64 0, .int .i64 0, .int .i64 0, .int .i64 0, .int .i64 0, .int .i64 0, .int .i64 0, .int .i64 0] 34)).setRow w2.heap.size (stArr S.st S.ow)) = w3
    rintro ⟨hT3, hb3⟩
    have hT3 : StateAt w3 w2.heap.size S := hT3
    have hB3 : Below w.heap.size w w3 := hB2.trans (hb3.mono hB2.size)
    have a0c := keep hb3 a0c
    have a1c := keep hb3 a1c
    clear hb3
    generalize w2.heap.size = bs at *
    refine (lof_ok (h.below hB3) hcap HR.out).mono ?_
    rintro e w4 ⟨b, vl, va, rfl, hL4, hb4⟩
    have hB4 : Below w.heap.size w w4 := hB3.trans (hb4.mono hB3.size)
    have a0c := keep hb4 a0c
    have a1c := keep hb4 a1c
    have hT4 := hT3.below hb4
    have HL4 := Lib.hid hL4
    have HT4 := Lib.hid hT4
    clear hb4 hT3 hT4 hL4 hB3
    go_wp2_with fail
    refine (can_calls HL4.out _ _ _).mono ?_
    rintro e w5 ⟨rfl, hb5⟩
    have hB5 : Below w.heap.size w w5 := hB4.trans (hb5.mono hB4.size)
    have a0c := keep hb5 a0c
    have a1c := keep hb5 a1c
    have hL5 := HL4.out.below hb5
    have hT5 := HT4.out.below hb5
    have HL5 := Lib.hid hL5
    have HT5 := Lib.hid hT5
    clear hb5 hL5 hT5 HL4 HT4 hB4
    go_wp2_with fail
    refine (scan_calls HT5.out HG.out _ _ _).mono ?_
    rintro e w6 ⟨rfl, hb6⟩
    have hB6 : Below w.heap.size w w6 := hB5.trans (hb6.mono hB5.size)
    have hL6 := HL5.out.below hb6
    have HL6 := Lib.hid hL6
    clear hb6 hL6 HL5 HT5 hB5
    go_wp2_with fail
    refine (len_calls HL6.out).mono ?_
    rintro e w7 ⟨rfl, rfl⟩
    rw [HSl.out, Hl.out]
    generalize canB S t k o = q
    go_wp2
    go_ret
    exact ⟨by simp, hB6⟩
  · have HR := Lib.hid hR
    have Hz := Lib.hid hz
    clear hR hz
    go_enter Try.func6, Try.ntmps6
    go_wp2_with fail
    refine (awake_calls _).mono ?_
    rintro e w1 ⟨rfl, hb⟩
    have hB1 : Below w.heap.size w w1 := Below.trans (show Below w.heap.size w _ by go_grown) (hb.mono (by simp))
    clear hb
    go_wp2_with fail
    refine (rof_no (h.below hB1) HR.out Hz.out).mono ?_
    rintro e w2 ⟨rfl, hb2⟩
    have hB2 : Below w.heap.size w w2 := hB1.trans (hb2.mono hB1.size)
    clear hb2 hB1
    have hz' : (z != 0) = true := by simpa [bne] using Hz.out
    go_wp2_with (refine wpList_store_row rfl 34 (.tmp 8) (.tmp 21) rfl w2.heap.size zArr rfl rfl 34 #[.int .i64 0, .int .i64 0, .int .i64 0, .int .i64 0, .int .i64 0, .int .i64 0, .int .i64 0, .int .i64 0, .int .i64 0, .int .i64 0, .int .i64 0, .int .i64 0, .int .i64 0, .int .i64 0, .int .i64 0, .int .i64 0] (MapKept.heap_alloc w2 _).1 infoState rfl zArr_one ?_)
    go_ret
    exact ⟨rfl, hB2.trans ((row_made w2 #[.int .i64 0, .int .i64 0, .int .i64 0, .int .i64 0, .int .i64 0, .int .i64 0, .int .i64 0, .int .i64 0, .int .i64 0, .int .i64 0, .int .i64 0, .int .i64 0, .int .i64 0, .int .i64 0, .int .i64 0, .int .i64 0] zArr 34).2.mono hB2.size)⟩
end Go.Proofs.Ytejcpjhepkhihaa
