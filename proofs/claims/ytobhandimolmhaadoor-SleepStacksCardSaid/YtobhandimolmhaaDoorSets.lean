/-
  Sets of threads as 64 bits: Len, Least, Has, Put, Cut; the document's Bits, Len, Least.
-/
import Derived.Test.YtobhandimolmhaaDoorHas
import Derived.Test.YtobhandimolmhaaDoorReg3
import Derived.Laws.BitsAllLaws
set_option linter.unusedSimpArgs false
set_option linter.unusedVariables false
namespace Go.Proofs.YtobhandimolmhaaDoor
open Go.ChangeShapes Go.WideShapes Go.ChangeAt Go.RowKit Go.Deep

theorem all256 {P : Nat → Prop} [DecidablePred P] (h : (List.range 256).all (fun m => decide (P m)) = true) : ∀ m, m < 256 → P m := fun m hm => by
  simpa using List.all_eq_true.1 h m (by simpa using hm)
def popT (m t : Nat) : Nat := ((List.range t).filter m.testBit).length
theorem popT_succ (m t : Nat) : popT m (t + 1) = popT m t + (m.testBit t).toNat := by
  unfold popT; rw [List.range_succ, List.filter_append, List.length_append]
  cases h : m.testBit t <;> simp [h]
theorem popT_le (m : Nat) : ∀ t, popT m t ≤ t
  | 0 => by simp [popT]
  | t + 1 => by rw [popT_succ]; have := popT_le m t; have := Bool.toNat_le (m.testBit t); omega
def leastI (m : Nat) : Int := match (List.range 8).find? m.testBit with | some t => (t : Int) | none => -1
theorem leastI_some {m t : Nat} (ht : t < 8) (hb : m.testBit t = true) (hn : ∀ j, j < t → m.testBit j = false) : leastI m = t := by
  unfold leastI
  rw [List.find?_range_eq_some.2 ⟨hb, by simpa using ht, fun j hj => by simp [hn j hj]⟩]
theorem leastI_none {m : Nat} (hn : ∀ j, j < 8 → m.testBit j = false) : leastI m = -1 := by
  unfold leastI
  rw [List.find?_range_eq_none.2 (fun j hj => by simp [hn j hj])]
theorem and255 {s : Nat} (hs : s < 18446744073709551616) : bits .and .u64 (s : Int) 255 = ((s % 256 : Nat) : Int) := by
  have := bits_and_u64_nat s 255 hs (by omega)
  rw [show s &&& 255 = s % 256 from Nat.and_two_pow_sub_one_eq_mod s 8] at this
  exact this
theorem bit_mod (s i : Nat) (hi : i < 8) : (s % 256).testBit i = s.testBit i := by
  rw [show 256 = 2 ^ 8 by rfl, Nat.testBit_mod_two_pow]; simp [hi]

set_option maxHeartbeats 1000000 in
theorem ones64 (w : World) (m : Nat) (hm : m < 256) : Calls Tryd.prog 29 #[.int .u64 m] w fun e w' => e = .returned (.int .i64 (popT m 8 : Nat)) ∧ w = w' := by
  go_enter Tryd.func29, Tryd.ntmps29
  go_wp2
  go_ret
  refine ⟨congrArg (fun z => Ending.returned (Value.int .i64 z)) ?_, rfl⟩
  revert m
  exact all256 (by kernel_rfl)
set_option maxHeartbeats 1000000 in
theorem ones (w : World) (m : Nat) (hm : m < 256) : Calls Tryd.prog 21 #[.int .u64 m] w fun e w' => e = .returned (.int .i64 (popT m 8 : Nat)) ∧ w = w' := by
  go_enter Tryd.func21, Tryd.ntmps21
  go_wp2_with fail
  refine (ones64 _ _ hm).mono ?_
  rintro e w' ⟨rfl, rfl⟩
  go_wp2
  go_ret
  exact ⟨rfl, rfl⟩
set_option maxHeartbeats 1000000 in
theorem len_calls (w : World) {s : Nat} (hs : s < 18446744073709551616) : Calls Tryd.prog 15 #[.int .u64 s] w fun e w' => e = .returned (.int .i64 (popT (s % 256) 8 : Nat)) ∧ w = w' := by
  have Ha := Lib.hid (and255 hs)
  have Hc := fun W => ones W (s % 256) (Nat.mod_lt _ (by omega))
  generalize s % 256 = r at *
  go_enter Tryd.func15, Tryd.ntmps15
  have ha := Ha.out
  go_wp2_with fail
  refine (Hc _).mono ?_
  rintro e w' ⟨rfl, rfl⟩
  go_wp2
  go_ret
  exact ⟨rfl, rfl⟩

/-- The table of math/bits. -/
def tabZ : List Int := [0, 1, 56, 2, 57, 49, 28, 3, 61, 58, 42, 50, 38, 29, 17, 4, 62, 47, 59, 36, 45, 43, 51, 22, 53, 39, 33, 30, 24, 18, 12, 5, 63, 55, 48, 27, 60, 41, 37, 16, 46, 35, 44, 21, 52, 32, 23, 11, 54, 26, 40, 15, 34, 20, 31, 10, 25, 14, 19, 9, 13, 8, 7, 6]
structure TabOk (w : World) : Prop where
  get : ∀ i, i < 64 → w.cell? ⟨1, i, none⟩ = some (.int .u8 (tabZ.getD i 0))
theorem TabOk.below {w w' : World} (h : TabOk w) (hb : Below w.heap.size w w') : TabOk w' := ⟨fun i hi => keep hb (h.get i hi)⟩

theorem low_and {x i k : Nat} (hx : x = 2 ^ i * (2 * k + 1)) (h64 : x < 18446744073709551616) : x &&& (18446744073709551616 - x) = 2 ^ i := by
  apply Nat.eq_of_testBit_eq
  intro j
  have hp : 0 < 2 ^ i := Nat.two_pow_pos i
  have hpos : 0 < x := by rw [hx]; exact Nat.mul_pos hp (by omega)
  have e : 18446744073709551616 - x = 2 ^ 64 - ((x - 1) + 1) := by rw [Nat.sub_add_cancel hpos]
  have e1 : x - 1 = 2 ^ (i + 1) * k + (2 ^ i - 1) := by
    rw [hx, Nat.pow_succ, Nat.mul_add, Nat.mul_one, ← Nat.mul_assoc]; omega
  have e2 : x = 2 ^ (i + 1) * k + 2 ^ i := by
    rw [hx, Nat.pow_succ, Nat.mul_add, Nat.mul_one, ← Nat.mul_assoc]
  have hl1 : 2 ^ i - 1 < 2 ^ (i + 1) := by rw [Nat.pow_succ]; omega
  have hl2 : 2 ^ i < 2 ^ (i + 1) := by rw [Nat.pow_succ]; omega
  rw [e, Nat.testBit_and, Nat.testBit_two_pow_sub_succ (by omega), Nat.testBit_two_pow]
  have b1 : (x - 1).testBit j = if j < i + 1 then (2 ^ i - 1).testBit j else k.testBit (j - (i + 1)) := by
    rw [e1, Nat.testBit_two_pow_mul_add _ hl1]
  have b2 : x.testBit j = if j < i + 1 then (2 ^ i).testBit j else k.testBit (j - (i + 1)) := by
    conv => lhs; rw [e2]
    rw [Nat.testBit_two_pow_mul_add _ hl2]
  rw [b1, b2, Nat.testBit_two_pow, Nat.testBit_two_pow_sub_one]
  by_cases hji : i = j
  · subst hji
    have h64' : i < 64 := by
      rcases Nat.lt_or_ge i 64 with h | h
      · exact h
      · have : 2 ^ 64 ≤ 2 ^ i := Nat.pow_le_pow_right (by omega) h
        omega
    simp [h64']
  · by_cases hj : j < i + 1
    · simp [hj, hji]
    · simp [hj, hji]
      intro h _; exact h
/-- The lowest bit, if it is one of eight. -/
theorem low_form {s : Nat} (h : s % 256 ≠ 0) : ∃ i k : Nat, i < 8 ∧ s = 2 ^ i * (2 * k + 1) ∧ leastI (s % 256) = i := by
  have all : ∀ m, m < 256 → m = 0 ∨ ∃ i : Nat, i < 8 ∧ m % 2 ^ (i + 1) = 2 ^ i ∧ leastI m = i := all256 (by kernel_rfl)
  rcases all (s % 256) (Nat.mod_lt _ (by omega)) with h0 | ⟨i, hi, hm, hl⟩
  · exact absurd h0 h
  · have hd : 2 ^ (i + 1) ∣ 256 := by
      rw [show (256 : Nat) = 2 ^ 8 by rfl]; exact Nat.pow_dvd_pow 2 (by omega)
    rw [Nat.mod_mod_of_dvd _ hd] at hm
    refine ⟨i, s / 2 ^ (i + 1), hi, ?_, hl⟩
    have := Nat.div_add_mod s (2 ^ (i + 1))
    rw [hm] at this
    rw [Nat.mul_add, Nat.mul_one, ← Nat.mul_assoc, ← Nat.pow_succ]
    exact this.symm
theorem neg_and {x i k : Nat} (hx : x = 2 ^ i * (2 * k + 1)) (h64 : x < 18446744073709551616) : bits .and .u64 (x : Int) (IntKind.u64.wrap (-(x : Int))) = ((2 ^ i : Nat) : Int) := by
  have hpos : 0 < x := by rw [hx]; exact Nat.mul_pos (Nat.two_pow_pos i) (by omega)
  have e : IntKind.u64.wrap (-(x : Int)) = ((18446744073709551616 - x : Nat) : Int) := by
    rw [IntKind.wrap_u64]; omega
  rw [e, bits_and_u64_nat _ _ h64 (by omega), low_and hx h64]

set_option maxHeartbeats 2000000 in
theorem tz64 {w : World} (hT : TabOk w) {s i k : Nat} (hs : s < 18446744073709551616) (hi : i < 8) (hx : s = 2 ^ i * (2 * k + 1)) :
    Calls Tryd.prog 36 #[.int .u64 s] w fun e w' => e = .returned (.int .i64 i) ∧ w = w' := by
  have hpos : 0 < s := by rw [hx]; exact Nat.mul_pos (Nat.two_pow_pos i) (by omega)
  have ha := neg_and hx hs
  have HT := Lib.hid hT
  clear hx hT
  have hne : s ≠ 0 := by omega
  obtain rfl | rfl | rfl | rfl | rfl | rfl | rfl | rfl : i = 0 ∨ i = 1 ∨ i = 2 ∨ i = 3 ∨ i = 4 ∨ i = 5 ∨ i = 6 ∨ i = 7 := by omega
  · have c := HT.out.get 0 (by decide)
    simp only [tabZ] at c
    go_enter Tryd.func36, Tryd.ntmps36
    go_wp2
    go_ret
    exact ⟨rfl, rfl⟩
  · have c := HT.out.get 1 (by decide)
    simp only [tabZ] at c
    go_enter Tryd.func36, Tryd.ntmps36
    go_wp2
    go_ret
    exact ⟨rfl, rfl⟩
  · have c := HT.out.get 3 (by decide)
    simp only [tabZ] at c
    go_enter Tryd.func36, Tryd.ntmps36
    go_wp2
    go_ret
    exact ⟨rfl, rfl⟩
  · have c := HT.out.get 7 (by decide)
    simp only [tabZ] at c
    go_enter Tryd.func36, Tryd.ntmps36
    go_wp2
    go_ret
    exact ⟨rfl, rfl⟩
  · have c := HT.out.get 15 (by decide)
    simp only [tabZ] at c
    go_enter Tryd.func36, Tryd.ntmps36
    go_wp2
    go_ret
    exact ⟨rfl, rfl⟩
  · have c := HT.out.get 31 (by decide)
    simp only [tabZ] at c
    go_enter Tryd.func36, Tryd.ntmps36
    go_wp2
    go_ret
    exact ⟨rfl, rfl⟩
  · have c := HT.out.get 63 (by decide)
    simp only [tabZ] at c
    go_enter Tryd.func36, Tryd.ntmps36
    go_wp2
    go_ret
    exact ⟨rfl, rfl⟩
  · have c := HT.out.get 62 (by decide)
    have hw : IntKind.u64.wrap 36591387270573294720 = 18144643196863743104 := by decide
    simp only [tabZ] at c
    go_enter Tryd.func36, Tryd.ntmps36
    go_wp2
    go_ret
    exact ⟨rfl, rfl⟩

set_option maxHeartbeats 1000000 in
theorem tz {w : World} (hT : TabOk w) {s i k : Nat} (hs : s < 18446744073709551616) (hi : i < 8) (hx : s = 2 ^ i * (2 * k + 1)) :
    Calls Tryd.prog 34 #[.int .u64 s] w fun e w' => e = .returned (.int .i64 i) ∧ w = w' := by
  have Hx := Lib.hid (And.intro hi hx)
  clear hx hi
  go_enter Tryd.func34, Tryd.ntmps34
  go_wp2_with fail
  refine (tz64 hT hs Hx.out.1 Hx.out.2).mono ?_
  rintro e w' ⟨rfl, rfl⟩
  go_wp2
  go_ret
  exact ⟨rfl, rfl⟩
set_option maxHeartbeats 1000000 in
theorem least_calls {w : World} (hT : TabOk w) {s : Nat} (hs : s < 18446744073709551616) :
    Calls Tryd.prog 31 #[.int .u64 s] w fun e w' => e = .returned (.int .i64 (leastI (s % 256))) ∧ w = w' := by
  by_cases h0 : s % 256 = 0
  · have hl : leastI (s % 256) = -1 := by rw [h0]; decide
    rw [hl]
    have ha : bits .and .u64 (s : Int) 255 = 0 := by rw [and255 hs, h0]; rfl
    go_enter Tryd.func31, Tryd.ntmps31
    go_wp2
    go_ret
    exact ⟨rfl, rfl⟩
  · obtain ⟨i, k, hi, hx, hl⟩ := low_form h0
    rw [hl]
    have Hx := Lib.hid (And.intro hi hx)
    have ha := and255 hs
    have hz : ((((s % 256 : Nat) : Int)) == 0) = false := by simpa using (by omega : ¬ ((s % 256 : Nat) : Int) = 0)
    clear hx hi hl h0
    generalize ((s % 256 : Nat) : Int) = r at *
    go_enter Tryd.func31, Tryd.ntmps31
    go_wp2_with fail
    refine (tz hT hs Hx.out.1 Hx.out.2).mono ?_
    rintro e w' ⟨rfl, rfl⟩
    go_wp2
    go_ret
    exact ⟨rfl, rfl⟩

/-! Has, Put, Cut of any bits. -/
theorem oneN_64 (t : Int) : oneN t < 18446744073709551616 := Nat.lt_trans (oneN_lt t) (by omega)
set_option maxHeartbeats 1000000 in
theorem has64_calls (w : World) {m : Nat} (hm : m < 18446744073709551616) (t : Int) : Calls Tryd.prog 19 #[.int .u64 m, .int .i64 t] w fun e w' => e = .returned (.bool (hasB m t)) ∧ w = w' := by
  have Hb := Lib.hid (bits_and_u64_nat m (oneN t) hm (oneN_64 t))
  have Ha := Lib.hid (and_one m t)
  go_enter Tryd.func19, Tryd.ntmps19
  go_wp2_with fail
  refine (one_same _ _).mono ?_
  rintro e w' ⟨rfl, rfl⟩
  go_wp2
  go_ret
  refine ⟨?_, rfl⟩
  rw [← Ha.out]
  simp [Hb.out]
set_option maxHeartbeats 1000000 in
theorem put64_calls (w : World) {m : Nat} (hm : m < 18446744073709551616) (t : Int) : Calls Tryd.prog 20 #[.int .u64 m, .int .i64 t] w fun e w' => e = .returned (.int .u64 (m ||| oneN t : Nat)) ∧ w = w' := by
  have Hb := Lib.hid (bits_or_u64_nat m (oneN t) hm (oneN_64 t))
  go_enter Tryd.func20, Tryd.ntmps20
  go_wp2_with fail
  refine (one_same _ _).mono ?_
  rintro e w' ⟨rfl, rfl⟩
  go_wp2
  go_ret
  exact ⟨by simp [Hb.out], rfl⟩
def cutN (m : Nat) (t : Int) : Nat := m &&& (18446744073709551615 - oneN t)
theorem cutN_lt {m : Nat} (hm : m < 18446744073709551616) (t : Int) : cutN m t < 18446744073709551616 := Nat.lt_of_le_of_lt Nat.and_le_left hm
theorem cut_val {m : Nat} (hm : m < 18446744073709551616) (t : Int) : bits .andNot .u64 (m : Int) (oneN t : Int) = (cutN m t : Nat) := u64_andNot_nat m (oneN t) hm (oneN_64 t)
set_option maxHeartbeats 1000000 in
theorem cut64_calls (w : World) {m : Nat} (hm : m < 18446744073709551616) (t : Int) : Calls Tryd.prog 22 #[.int .u64 m, .int .i64 t] w fun e w' => e = .returned (.int .u64 (cutN m t : Nat)) ∧ w = w' := by
  have Hb := Lib.hid (cut_val hm t)
  go_enter Tryd.func22, Tryd.ntmps22
  go_wp2_with fail
  refine (one_same _ _).mono ?_
  rintro e w' ⟨rfl, rfl⟩
  go_wp2
  go_ret
  exact ⟨by simp [Hb.out], rfl⟩
end Go.Proofs.YtobhandimolmhaaDoor
