/-
  SwapKeeps: whatever is exchanged, Same is true, Normal and Floors are the same, and the same can come behind it.
-/
import Derived.Test.YtjhlehepnhbbaaaFlrLaw
set_option linter.unusedSimpArgs false
set_option linter.unusedVariables false
namespace Go.Proofs.Ytjhlehepnhbbaaa
open Go.ChangeShapes Go.WideShapes Go.ChangeAt Go.RowKit Go.Deep

set_option maxRecDepth 20000 in
set_option maxHeartbeats 16000000 in
theorem swapKeeps_law' {w : World} {a0 p0 : Option Addr} {n c np pc : Nat} {l : List Ev} {P : List Int} (h : IsEvs w a0 n c l) (hp : IsInts w p0 np pc P) (et ek eo ev eb : Int) :
    Calls Try.prog 7 #[.slice a0 n c, .slice p0 np pc, .agg #[.int .i64 et, .int .i64 ek, .int .i64 eo, .int .i64 ev, .int .i64 eb]] w fun e w' => e = .returned (.bool true) ∧ Below w.heap.size w w' := by
  have Hev := Lib.hid h
  have HP := Lib.hid hp
  have Hl := Lib.hid h.len
  clear h hp
  go_enter Try.func7, Try.ntmps7
  go_wp2_with fail
  have hN := one_newR w #[.int .i64 et, .int .i64 ek, .int .i64 eo, .int .i64 ev, .int .i64 eb] 36
  revert hN
  generalize w.alloc (.cells #[.int .i64 et, .int .i64 ek, .int .i64 eo, .int .i64 ev, .int .i64 eb] 36) = w0
  intro hN
  have hA := hN.1
  have HB0 := Lib.hid hN.2
  obtain ⟨g0, hg0⟩ : ∃ g, g = w.heap.size := ⟨_, rfl⟩
  rw [← hg0] at hA ⊢
  have HE0 : Hid (EvBox w0 g0 et ek eo ev eb) := ⟨cell_of_block hA, cell_of_block hA, cell_of_block hA, cell_of_block hA, cell_of_block hA⟩
  clear hA hN hg0
  refine (awake16_calls _).mono ?_
  rintro e w1 ⟨rfl, hb⟩
  have HB1 := Lib.hid (HB0.out.trans (hb.mono HB0.out.size))
  have HE1 := Lib.hid (HE0.out.below hb)
  clear hb
  go_wp2_with fail
  refine (rwrong_calls (Hev.out.below HB1.out)).mono ?_
  rintro e w2 ⟨rfl, hb⟩
  have HB2 := Lib.hid (HB1.out.trans (hb.mono HB1.out.size))
  have HE2 := Lib.hid (HE1.out.below hb)
  clear hb
  by_cases hz : wrongS n l = 0
  case neg =>
    have hz' : (wrongS n l != 0) = true := by simpa [bne] using hz
    clear hz
    generalize wrongS n l = z at *
    go_wp2
    go_ret
    exact ⟨rfl, HB2.out⟩
  have Hz := Lib.hid hz
  have hn100 : n ≤ 100 := wrong_le16 hz
  obtain ⟨S, hS⟩ := wrong_ofS hz
  have HS := Lib.hid hS
  have H8 : Hid (Thr8 l) := thr8_of (good_of Hev.out hn100 hS)
  rw [hz]
  clear hz hS
  go_wp2_with fail
  refine (exchanged_calls (Hev.out.below HB2.out) (HP.out.below HB2.out) Hz.out).mono ?_
  rintro e w3 ⟨x, xa, xc, rfl, hI, hT, hb⟩
  have HX3 := Lib.hid hI
  have HT := Lib.hid hT
  have Hzx := Lib.hid (wrong_tr hT Hz.out)
  have Hnn := Lib.hid (normL_tr hT)
  have Hff := Lib.hid (hT.flrs H8.out)
  clear hI hT
  have HB3 := Lib.hid (HB2.out.trans (hb.mono HB2.out.size))
  have HE3 := Lib.hid (HE2.out.below hb)
  clear hb
  go_wp2_with fail
  refine (same_calls (Hev.out.below HB3.out) HX3.out).mono ?_
  rintro e w4 ⟨rfl, hb⟩
  rw [sameRes_ok Hz.out Hzx.out, Hnn.out, eqB_self]
  simp only
  have HB4 := Lib.hid (HB3.out.trans (hb.mono HB3.out.size))
  have HE4 := Lib.hid (HE3.out.below hb)
  have HX4 := Lib.hid (HX3.out.below hb)
  clear hb
  go_wp2_with fail
  refine (normal_calls (Hev.out.below HB4.out)).mono ?_
  rintro e w5 ⟨na, nc, rfl, hI, hb⟩
  rw [normRes_good Hz.out] at hI ⊢
  simp only at hI ⊢
  have HN5 := Lib.hid hI
  clear hI
  have HB5 := Lib.hid (HB4.out.trans (hb.mono HB4.out.size))
  have HE5 := Lib.hid (HE4.out.below hb)
  have HX5 := Lib.hid (HX4.out.below hb)
  clear hb
  go_wp2_with fail
  refine (normal_calls HX5.out).mono ?_
  rintro e w6 ⟨ma, mc, rfl, hI, hb⟩
  rw [normRes_good Hzx.out] at hI ⊢
  simp only at hI ⊢
  rw [Hnn.out] at hI ⊢
  have HM6 := Lib.hid hI
  clear hI
  have HB6 := Lib.hid (HB5.out.trans (hb.mono HB5.out.size))
  have HE6 := Lib.hid (HE5.out.below hb)
  have HX6 := Lib.hid (HX5.out.below hb)
  have HN6 := Lib.hid (HN5.out.below hb)
  clear hb
  go_wp2_with fail
  refine (floors_calls (Hev.out.below HB6.out)).mono ?_
  rintro e w7 ⟨u, rfl, hs, hb⟩
  rw [flrRes_good Hz.out] at hs ⊢
  have HU7 := Lib.hid hs
  clear hs
  have HB7 := Lib.hid (HB6.out.trans (hb.mono HB6.out.size))
  have HE7 := Lib.hid (HE6.out.below hb)
  have HX7 := Lib.hid (HX6.out.below hb)
  have HN7 := Lib.hid (HN6.out.below hb)
  have HM7 := Lib.hid (HM6.out.below hb)
  clear hb
  go_wp2_with fail
  refine (floors_calls HX7.out).mono ?_
  rintro e w8 ⟨v, rfl, hs, hb⟩
  rw [flrRes_good Hzx.out, Hff.out] at hs
  rw [flrRes_good Hzx.out, Hff.out]
  have HV8 := Lib.hid hs
  clear hs
  have HB8 := Lib.hid (HB7.out.trans (hb.mono HB7.out.size))
  have HE8 := Lib.hid (HE7.out.below hb)
  have HX8 := Lib.hid (HX7.out.below hb)
  have HN8 := Lib.hid (HN7.out.below hb)
  have HM8 := Lib.hid (HM7.out.below hb)
  have HU8 := Lib.hid (HU7.out.below hb)
  clear hb
  go_wp2_with fail
  refine (sameE_calls HN8.out HM8.out).mono ?_
  rintro e w9 ⟨rfl, hb⟩
  rw [eqB_self]
  have HB9 := Lib.hid (HB8.out.trans (hb.mono HB8.out.size))
  have HE9 := Lib.hid (HE8.out.below hb)
  have HX9 := Lib.hid (HX8.out.below hb)
  have HN9 := Lib.hid (HN8.out.below hb)
  have HU9 := Lib.hid (HU8.out.below hb)
  have HV9 := Lib.hid (HV8.out.below hb)
  clear hb
  go_wp2_with fail
  refine (sameF_calls HU9.out HV9.out).mono ?_
  rintro e w10 ⟨rfl, hb⟩
  rw [eqFB_self]
  have HB10 := Lib.hid (HB9.out.trans (hb.mono HB9.out.size))
  have HE10 := Lib.hid (HE9.out.below hb)
  have HX10 := Lib.hid (HX9.out.below hb)
  have HN10 := Lib.hid (HN9.out.below hb)
  clear hb
  clear HU8 HV8 HU9 HV9 HM8 HU7 HM6 HM7
  go_wp2_with fail
  refine (lof_ok (Hev.out.below HB10.out) (by omega) HS.out).mono ?_
  rintro e w11 ⟨b1, vl1, va1, rfl, hL, hb⟩
  have HK11 := Lib.hid hL
  clear hL
  have HB11 := Lib.hid (HB10.out.trans (hb.mono HB10.out.size))
  have HE11 := Lib.hid (HE10.out.below hb)
  have HX11 := Lib.hid (HX10.out.below hb)
  have HN11 := Lib.hid (HN10.out.below hb)
  clear hb
  obtain ⟨T, hT, hlk⟩ := HT.out.ok HS.out
  have HTx := Lib.hid hT
  have Hlk := Lib.hid hlk
  clear hT hlk
  go_wp2_with fail
  refine (lof_ok HX11.out (by omega) HTx.out).mono ?_
  rintro e w12 ⟨b2, vl2, va2, rfl, hL, hb⟩
  have HR12 := Lib.hid hL
  clear hL
  have HB12 := Lib.hid (HB11.out.trans (hb.mono HB11.out.size))
  have HE12 := Lib.hid (HE11.out.below hb)
  have HN12 := Lib.hid (HN11.out.below hb)
  have HK12 := Lib.hid (HK11.out.below hb)
  clear hb
  obtain ⟨U, hU, hlk⟩ := (normL_norm l).tr.ok HS.out
  have HUx := Lib.hid hU
  have Hlk2 := Lib.hid hlk
  have Hln : Hid ((normL l).length * 40 ≤ 140737488355328) := by rw [Hid, normL_len, Hl.out]; omega
  clear hU hlk
  go_wp2_with fail
  refine (lof_ok HN12.out Hln.out HUx.out).mono ?_
  rintro e w13 ⟨b3, vl3, va3, rfl, hL, hb⟩
  have HQ13 := Lib.hid hL
  clear hL
  have HB13 := Lib.hid (HB12.out.trans (hb.mono HB12.out.size))
  have HE13 := Lib.hid (HE12.out.below hb)
  have HK13 := Lib.hid (HK12.out.below hb)
  have HR13 := Lib.hid (HR12.out.below hb)
  clear hb
  obtain ⟨e0, e1, e2, _, _⟩ := HE13.out.all
  have hal : Below w13.heap.size w13 (w13.alloc (.cells #[.int .i64 ek, .int .i64 eo] 50)) := (Below.refl _ w13).alloc (Nat.le_refl _) _
  have hN := one_newR w13 #[.int .i64 ek, .int .i64 eo] 50
  have HE14 := Lib.hid (HE13.out.below hal)
  have HK14 := Lib.hid (HK13.out.below hal)
  have HR14 := Lib.hid (HR13.out.below hal)
  have HQ14 := Lib.hid (HQ13.out.below hal)
  have HB14 := Lib.hid (HB13.out.trans (hal.mono HB13.out.size))
  clear hal
  go_upto_region 19 with (fail)
  clear e0 e1 e2
  revert hN HE14 HK14 HR14 HQ14 HB14
  generalize w13.alloc (.cells #[.int .i64 ek, .int .i64 eo] 50) = w14
  intro hN HE14 HK14 HR14 HQ14 HB14
  obtain ⟨g1, hg1⟩ : ∃ g, g = w13.heap.size := ⟨_, rfl⟩
  rw [← hg1] at hN ⊢
  have t0 : w14.cell? ⟨g1, 0, none⟩ = some (.int .i64 ek) := cell_of_block hN.1
  have t1 : w14.cell? ⟨g1, 1, none⟩ = some (.int .i64 eo) := cell_of_block hN.1
  clear hN hg1
  obtain ⟨e0, _, _, _, _⟩ := HE14.out.all
  go_wp2_with fail
  refine (can_calls HK14.out et ek eo).mono ?_
  rintro e w15 ⟨rfl, hb⟩
  have e0 := keep hb e0
  have t0 := keep hb t0
  have t1 := keep hb t1
  have HB15 := Lib.hid (HB14.out.trans (hb.mono HB14.out.size))
  have HR15 := Lib.hid (HR14.out.below hb)
  have HQ15 := Lib.hid (HQ14.out.below hb)
  clear hb
  go_wp2_with fail
  refine (can_calls HR15.out et ek eo).mono ?_
  rintro e w16 ⟨rfl, hb⟩
  have e0 := keep hb e0
  have t0 := keep hb t0
  have t1 := keep hb t1
  have HB16 := Lib.hid (HB15.out.trans (hb.mono HB15.out.size))
  have HQ16 := Lib.hid (HQ15.out.below hb)
  clear hb
  go_wp2_with fail
  refine (can_calls HQ16.out et ek eo).mono ?_
  rintro e w17 ⟨rfl, hb⟩
  have HB17 := Lib.hid (HB16.out.trans (hb.mono HB16.out.size))
  clear hb
  rw [← Hlk.out.canB, ← Hlk2.out.canB]
  generalize canB S et ek eo = q
  clear e0 t0 t1
  cases q <;> (go_wp2; go_ret; exact ⟨rfl, HB17.out⟩)
theorem swapKeeps_law {w : World} {a0 p0 : Option Addr} {n c np pc : Nat} {l : List Ev} {P : List Int} (h : IsEvs w a0 n c l) (hp : IsInts w p0 np pc P) (x : Ev) :
    Calls Try.prog 7 #[.slice a0 n c, .slice p0 np pc, .agg #[.int .i64 x.t, .int .i64 x.k, .int .i64 x.o, .int .i64 x.v, .int .i64 x.b]] w fun e w' => e = .returned (.bool true) ∧ Below w.heap.size w w' := swapKeeps_law' h hp _ _ _ _ _
end Go.Proofs.Ytjhlehepnhbbaaa
