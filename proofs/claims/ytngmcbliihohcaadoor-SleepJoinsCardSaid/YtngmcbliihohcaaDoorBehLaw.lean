/-
  SleepBehind, SleepJoins: the walks.
-/
import Derived.Test.YtngmcbliihohcaaDoorRBehind
import Derived.Test.YtngmcbliihohcaaDoorLaid
set_option linter.unusedSimpArgs false
set_option linter.unusedVariables false
namespace Go.Proofs.YtngmcbliihohcaaDoor
open Go.ChangeShapes Go.WideShapes Go.ChangeAt Go.RowKit Go.Deep

section
variable {H : Type} {enc : TypeId × Value → H} {P : Program} {w : World} {base : Nat} {spare : Nat → Bool} {held : Bool}
/-- A struct of numbers, one cell a field. -/
def flatU (P : Program) (fs : Array Field) : Bool :=
  (List.range fs.size).all fun j => match fs[j]? with
    | some f => f.offset == j && P.cellsOf f.type == 1 && (match P.underlying f.type with | some (.int .u64) => true | _ => false)
    | none => false

theorem trod_flatU {t : TypeId} {fs : Array Field} {fuel : Nat} {cs : List Value} {x : DataW H × List MemPlace} (ht : P.underlying t = some (.struct fs)) (hf : flatU P fs = true) (hC : P.cellsOf t = fs.size)
    (h : DataW.trod enc P w base spare held fuel t cs = some x) :
    ∃ zs : List Int, cs = zs.map (Value.int .u64) ∧ zs.length = fs.size ∧ x.2 = [] ∧ ∀ z ∈ zs, (Lit.int .u64 z).wf = true := by
  obtain ⟨xs, n, _, rfl, hlen, hxl, hg⟩ := DataW.trod_struct ht h
  rw [hC] at hlen
  have key : ∀ j, j < fs.size → ∃ z : Int, cs[j]? = some (.int .u64 z) ∧ (Lit.int .u64 z).wf = true ∧ ∃ y, xs[j]? = some y ∧ y.2 = [] := by
    intro j hj
    have h1 := List.all_eq_true.1 hf j (List.mem_range.2 hj)
    have hfj : fs[j]? = some (fs[j]) := Array.getElem?_eq_getElem hj
    rw [hfj] at h1
    simp only [Bool.and_eq_true, beq_iff_eq] at h1
    obtain ⟨⟨ho, hc⟩, hu⟩ := h1
    have hu' : P.underlying fs[j].type = some (.int .u64) := by
      split at hu
      · assumption
      · cases hu
    have h2 := hg j fs[j] hfj
    have hxj : xs[j]? = some (xs[j]'(by omega)) := List.getElem?_eq_getElem (by omega)
    rw [ho, hc, hxj] at h2
    obtain ⟨z, hz, hy, hw⟩ := DataW.trod_int hu' h2
    have hcj : cs[j]? = some (cs[j]'(by omega)) := List.getElem?_eq_getElem (by omega)
    have hone : (cs.drop j).take 1 = [cs[j]'(by omega)] := by rw [List.drop_eq_getElem_cons (by omega)]; rfl
    rw [hone] at hz
    have : cs[j]'(by omega) = .int .u64 z := by simpa using hz
    refine ⟨z, by rw [hcj, this], hw, _, hxj, by rw [hy]⟩
  have hall : ∀ (k : Nat) (l : List Value), l.length = k → (∀ j, j < k → ∃ z : Int, l[j]? = some (.int .u64 z) ∧ (Lit.int .u64 z).wf = true) →
      ∃ zs : List Int, l = zs.map (Value.int .u64) ∧ zs.length = k ∧ ∀ z ∈ zs, (Lit.int .u64 z).wf = true := by
    intro k
    induction k with
    | zero => intro l hl _; exact ⟨[], by simpa using hl, rfl, fun z hz => by cases hz⟩
    | succ k ih =>
      intro l hl h
      cases l with
      | nil => simp at hl
      | cons v l =>
        obtain ⟨z, hz, hw⟩ := h 0 (by omega)
        obtain ⟨zs, rfl, hzl, hzw⟩ := ih l (by simpa using hl) (fun j hj => by simpa using h (j + 1) (by omega))
        have hv : v = .int .u64 z := by simpa using hz
        subst hv
        exact ⟨z :: zs, rfl, by simp [hzl], fun y hy => by
          cases hy with
          | head => exact hw
          | tail _ hm => exact hzw y hm⟩
  obtain ⟨zs, hcs, hzl, hzw⟩ := hall fs.size cs hlen (fun j hj => let ⟨z, h1, h2, _⟩ := key j hj; ⟨z, h1, h2⟩)
  refine ⟨zs, hcs, hzl, ?_, hzw⟩
  simp only [List.flatMap_eq_nil_iff]
  intro y hy
  obtain ⟨j, hj, rfl⟩ := List.getElem_of_mem hy
  obtain ⟨_, _, _, y', hy', h2⟩ := key j (by omega)
  rw [List.getElem?_eq_getElem hj] at hy'
  cases hy'
  exact h2

/-- A struct of numbers as an argument by value. -/
theorem open_flatU {r : Reach} {b0 : Nat} {t : TypeId} {fs : Array Field} {v : Value} {d : DataW H} {p : List MemPlace} (ht : P.underlying t = some (.struct fs)) (hf : flatU P fs = true) (hC : P.cellsOf t = fs.size)
    (hv : Value.okWide P w r b0 t v) (h : DataW.Trod enc P w base spare held t v d p) :
    ∃ zs : List Int, v = .agg (zs.map (Value.int .u64)).toArray ∧ zs.length = fs.size ∧ ∀ z ∈ zs, (Lit.int .u64 z).wf = true := by
  obtain ⟨cs, rfl, hsz⟩ := okWide_struct ht hv
  obtain ⟨fuel, hf'⟩ := h
  obtain ⟨zs, h1, h2, _, h4⟩ := trod_flatU ht hf hC hf'
  exact ⟨zs, by rw [← h1]; simp [Value.cells], h2, h4⟩

end

set_option maxRecDepth 100000 in
theorem open_two {H : Type} {enc : TypeId × Value → H} {w : World} {r : Reach} {b0 : Nat} {v : Value} {d : DataW H} {p : List MemPlace} (hv : Value.okWide Tryd.prog w r b0 44 v) (h : DataW.Trod enc Tryd.prog w 0 (fun _ => true) true 44 v d p) :
    ∃ a b : Nat, v = .agg #[.int .u64 a, .int .u64 b] ∧ a < 18446744073709551616 ∧ b < 18446744073709551616 := by
  obtain ⟨zs, rfl, hl, hw⟩ := open_flatU Tryd.underlying44 (by kernel_rfl) (by kernel_rfl) hv h
  match zs, hl with
  | [a, b], _ =>
    obtain ⟨x, rfl, hx⟩ := u64_nat (hw a (by simp))
    obtain ⟨y, rfl, hy⟩ := u64_nat (hw b (by simp))
    exact ⟨x, y, rfl, hx, hy⟩

set_option maxRecDepth 20000 in
set_option maxHeartbeats 4000000 in
theorem behind_law {w : World} (hT : TabOk w) {s : Nat} (hs : s < 18446744073709551616) {a0 : Option Addr} {n c : Nat} {next : List Ac} (hn : IsAcs w a0 n c next) (e : Ev) :
    Calls Tryd.prog 5 #[.int .u64 s, .slice a0 n c, .agg #[.int .i64 e.t, .int .i64 e.k, .int .i64 e.o, .int .i64 e.v, .int .i64 e.b]] w fun x w' => x = .returned (.bool true) ∧ Below w.heap.size w w' := by
  have hbl := behN_lt s next e
  have hbb : ∀ j, j < 8 → (behN s next e).testBit j = ((s % 256).testBit j && !((j : Int) == e.t) && keepT next e j) := fun j hj => behN_bit hj
  have hBeh := fun W (hT : TabOk W) (hn : IsAcs W a0 n c next) => behind_calls hT hs hn e
  have hR := fun W => rbits_calls W hs
  have hRB := fun W (hn : IsAcs W a0 n c next) => rbehind_calls (m := s % 256) hn e hbl hbb
  have hN := fun W => number17_calls W hbl
  generalize behN s next e = B at *
  generalize s % 256 = m at *
  obtain ⟨f, hf⟩ : ∃ f, f = m.testBit := ⟨_, rfl⟩
  obtain ⟨g, hg⟩ : ∃ g, g = B.testBit := ⟨_, rfl⟩
  rw [show bitsV m = .agg #[.bool (f 0), .bool (f 1), .bool (f 2), .bool (f 3), .bool (f 4), .bool (f 5), .bool (f 6), .bool (f 7)] by rw [hf]; rfl] at hR hRB
  rw [show bitsV B = .agg #[.bool (g 0), .bool (g 1), .bool (g 2), .bool (g 3), .bool (g 4), .bool (g 5), .bool (g 6), .bool (g 7)] by rw [hg]; rfl] at hRB hN
  clear hf hg hbb hbl
  have HBeh := Lib.hid hBeh
  have HR := Lib.hid hR
  have HRB := Lib.hid hRB
  have HN := Lib.hid hN
  clear hBeh hR hRB hN
  go_enter Tryd.func5, Tryd.ntmps5
  go_wp2_with fail
  have bA : Below w.heap.size w (w.alloc (.cells #[.int .i64 e.t, .int .i64 e.k, .int .i64 e.o, .int .i64 e.v, .int .i64 e.b] 38)) := (Below.refl _ w).alloc (Nat.le_refl _) _
  have fe := fun o => (cell_nw w #[.int .i64 e.t, .int .i64 e.k, .int .i64 e.o, .int .i64 e.v, .int .i64 e.b] 38 o).1
  have e0 := fe 0
  have e1 := fe 1
  have e2 := fe 2
  have e3 := fe 3
  have e4 := fe 4
  simp only [List.getElem?_toArray, List.getElem?_cons_zero, List.getElem?_cons_succ] at e0 e1 e2 e3 e4
  clear fe
  generalize (w.alloc (.cells #[.int .i64 e.t, .int .i64 e.k, .int .i64 e.o, .int .i64 e.v, .int .i64 e.b] 38)) = wa at *
  refine (awake17_calls _).mono ?_
  rintro x w1 ⟨rfl, hb⟩
  have hB1 := bA.trans (hb.mono bA.size)
  have e0 := keep hb e0
  have e1 := keep hb e1
  have e2 := keep hb e2
  have e3 := keep hb e3
  have e4 := keep hb e4
  clear hb
  go_wp2_with fail
  refine (HBeh.out _ (hT.below hB1) (hn.below hB1)).mono ?_
  rintro x w2 ⟨rfl, hb⟩
  have hB2 := hB1.trans (hb.mono hB1.size)
  have e0 := keep hb e0
  have e1 := keep hb e1
  have e2 := keep hb e2
  have e3 := keep hb e3
  have e4 := keep hb e4
  clear hb
  go_wp2_with fail
  refine (HR.out _).mono ?_
  rintro x w3 ⟨rfl, hb⟩
  have hB3 := hB2.trans (hb.mono hB2.size)
  have e0 := keep hb e0
  have e1 := keep hb e1
  have e2 := keep hb e2
  have e3 := keep hb e3
  have e4 := keep hb e4
  clear hb
  have hl3 := block_of_cell0 e0
  go_wp2_with fail
  have hA : Below w.heap.size w (w3.alloc (.cells #[.bool (f 0), .bool (f 1), .bool (f 2), .bool (f 3), .bool (f 4), .bool (f 5), .bool (f 6), .bool (f 7)] 25)) := hB3.alloc hB3.size _
  have hblk := (MapKept.heap_alloc w3 (.cells #[.bool (f 0), .bool (f 1), .bool (f 2), .bool (f 3), .bool (f 4), .bool (f 5), .bool (f 6), .bool (f 7)] 25)).1
  have hz3 : w3.heap.size < (w3.alloc (.cells #[.bool (f 0), .bool (f 1), .bool (f 2), .bool (f 3), .bool (f 4), .bool (f 5), .bool (f 6), .bool (f 7)] 25)).heap.size := by simp
  have hw3 := hB3.size
  generalize (w3.alloc (.cells #[.bool (f 0), .bool (f 1), .bool (f 2), .bool (f 3), .bool (f 4), .bool (f 5), .bool (f 6), .bool (f 7)] 25)) = w4 at *
  refine (HRB.out _ (hn.below hA)).mono ?_
  rintro x w5 ⟨rfl, hb⟩
  have hB5 := hA.trans (hb.mono hA.size)
  have hblk := (hb.block w3.heap.size hz3).trans hblk
  have hfz : ∀ o, w5.frozen? ⟨w3.heap.size, o, none⟩ = false := fun o => free_blk hblk
  have r0 : w5.cell? ⟨w3.heap.size, 0, none⟩ = some (.bool (f 0)) := cell_blk hblk
  have r1 : w5.cell? ⟨w3.heap.size, 1, none⟩ = some (.bool (f 1)) := cell_blk hblk
  have r2 : w5.cell? ⟨w3.heap.size, 2, none⟩ = some (.bool (f 2)) := cell_blk hblk
  have r3 : w5.cell? ⟨w3.heap.size, 3, none⟩ = some (.bool (f 3)) := cell_blk hblk
  have r4 : w5.cell? ⟨w3.heap.size, 4, none⟩ = some (.bool (f 4)) := cell_blk hblk
  have r5 : w5.cell? ⟨w3.heap.size, 5, none⟩ = some (.bool (f 5)) := cell_blk hblk
  have r6 : w5.cell? ⟨w3.heap.size, 6, none⟩ = some (.bool (f 6)) := cell_blk hblk
  have r7 : w5.cell? ⟨w3.heap.size, 7, none⟩ = some (.bool (f 7)) := cell_blk hblk
  clear hb hblk e0 e1 e2 e3 e4
  go_wp2_with fail
  refine (HN.out _).mono ?_
  rintro x w6 ⟨rfl, hb⟩
  have hB6 : Below w.heap.size w w6 := Below.trans (by go_grown) (hb.mono (by have := hB5.size; simp; omega))
  clear hb r0 r1 r2 r3 r4 r5 r6 r7 hfz
  go_wp2
  go_ret
  exact ⟨by first | rfl | simp, hB6⟩

theorem behN_join (a b : Nat) (next : List Ac) (e : Ev) : behN (a ||| b) next e = behN a next e ||| behN b next e := by
  apply Nat.eq_of_testBit_eq
  intro j
  rw [Nat.testBit_or]
  by_cases hj : j < 8
  · rw [behN_bit hj, behN_bit hj, behN_bit hj, bit_mod _ _ hj, bit_mod _ _ hj, bit_mod _ _ hj, Nat.testBit_or]
    cases a.testBit j <;> cases b.testBit j <;> simp
  · have big : ∀ B, B < 256 → B.testBit j = false := fun B hB => Nat.testBit_lt_two_pow (Nat.lt_of_lt_of_le hB (by rw [show 256 = 2 ^ 8 by rfl]; exact Nat.pow_le_pow_right (by omega) (by omega)))
    rw [big _ (behN_lt ..), big _ (behN_lt ..), big _ (behN_lt ..)]; rfl
theorem behN_sub (a : Nat) (next : List Ac) (e : Ev) : behN a next e &&& (18446744073709551615 - a % 256) = 0 := by
  apply Nat.eq_of_testBit_eq
  intro j
  have hm : a % 256 < 256 := Nat.mod_lt _ (by omega)
  rw [Nat.testBit_and, Nat.zero_testBit, show 18446744073709551615 - a % 256 = 2 ^ 64 - (a % 256 + 1) by omega, Nat.testBit_two_pow_sub_succ (Nat.lt_trans hm (by omega))]
  by_cases hj : j < 8
  · rw [behN_bit hj]
    cases (a % 256).testBit j <;> simp
  · rw [Nat.testBit_lt_two_pow (Nat.lt_of_lt_of_le (behN_lt a next e) (by rw [show 256 = 2 ^ 8 by rfl]; exact Nat.pow_le_pow_right (by omega) (by omega)))]
    rfl
set_option maxHeartbeats 1000000 in
theorem low_calls (w : World) {s : Nat} (hs : s < 18446744073709551616) : Calls Tryd.prog 22 #[.int .u64 s] w fun e w' => e = .returned (.int .u64 (s % 256 : Nat)) ∧ w = w' := by
  have Ha := Lib.hid (and255 hs)
  go_enter Tryd.func22, Tryd.ntmps22
  go_wp2
  go_ret
  exact ⟨by rw [← Ha.out]; rfl, rfl⟩

set_option maxRecDepth 20000 in
set_option maxHeartbeats 4000000 in
theorem joins_law {w : World} (hT : TabOk w) {a b : Nat} (ha : a < 18446744073709551616) (hb' : b < 18446744073709551616) {a0 : Option Addr} {n c : Nat} {next : List Ac} (hn : IsAcs w a0 n c next) (e : Ev) :
    Calls Tryd.prog 6 #[.agg #[.int .u64 a, .int .u64 b], .slice a0 n c, .agg #[.int .i64 e.t, .int .i64 e.k, .int .i64 e.o, .int .i64 e.v, .int .i64 e.b]] w fun x w' => x = .returned (.bool true) ∧ Below w.heap.size w w' := by
  have hor := bits_or_u64_nat a b ha hb'
  have hab : a ||| b < 18446744073709551616 := Nat.or_lt_two_pow (n := 64) ha hb'
  have hj := bits_or_u64_nat (behN a next e) (behN b next e) (Nat.lt_trans (behN_lt ..) (by omega)) (Nat.lt_trans (behN_lt ..) (by omega))
  have hsub := u64_andNot_nat (behN a next e) (a % 256) (Nat.lt_trans (behN_lt ..) (by omega)) (by omega)
  rw [behN_sub] at hsub
  rw [← behN_join] at hj
  have hBa := fun W (hT : TabOk W) (hn : IsAcs W a0 n c next) => behind_calls hT ha hn e
  have hBb := fun W (hT : TabOk W) (hn : IsAcs W a0 n c next) => behind_calls hT hb' hn e
  have hBj := fun W (hT : TabOk W) (hn : IsAcs W a0 n c next) => behind_calls hT hab hn e
  have hlow := fun W => low_calls W ha
  rw [← hor] at hBj
  generalize behN (a ||| b) next e = z at *
  generalize behN a next e = x at *
  generalize behN b next e = y at *
  generalize a % 256 = m at *
  have HBa := Lib.hid hBa
  have HBb := Lib.hid hBb
  have HBj := Lib.hid hBj
  have Hlow := Lib.hid hlow
  have Hj := Lib.hid hj
  have Hsub := Lib.hid hsub
  clear hBa hBb hBj hlow hor hj hsub
  go_enter Tryd.func6, Tryd.ntmps6
  go_wp2_with fail
  obtain ⟨wa, hwa⟩ : ∃ wa, wa = w.alloc (.cells #[.int .u64 a, .int .u64 b] 44) := ⟨_, rfl⟩
  have z0 : wa.heap.size = w.heap.size + 1 := by rw [hwa]; simp
  have bA : Below w.heap.size w wa := by rw [hwa]; exact (Below.refl _ w).alloc (Nat.le_refl _) _
  rw [← hwa]
  obtain ⟨wb, hwb⟩ : ∃ wb, wb = wa.alloc (.cells #[.int .i64 e.t, .int .i64 e.k, .int .i64 e.o, .int .i64 e.v, .int .i64 e.b] 38) := ⟨_, rfl⟩
  have fe := fun o => (cell_nw wa #[.int .i64 e.t, .int .i64 e.k, .int .i64 e.o, .int .i64 e.v, .int .i64 e.b] 38 o).1
  have bB : Below w.heap.size w wb := by rw [hwb]; exact bA.alloc bA.size _
  rw [← hwb] at fe ⊢
  rw [z0] at fe
  have e0 := fe 0
  have e1 := fe 1
  have e2 := fe 2
  have e3 := fe 3
  have e4 := fe 4
  simp only [List.getElem?_toArray, List.getElem?_cons_zero, List.getElem?_cons_succ] at e0 e1 e2 e3 e4
  clear fe hwb z0 hwa
  refine (awake17_calls _).mono ?_
  rintro x' w1 ⟨rfl, hb⟩
  have hB1 := bB.trans (hb.mono bB.size)
  have e0 := keep hb e0
  have e1 := keep hb e1
  have e2 := keep hb e2
  have e3 := keep hb e3
  have e4 := keep hb e4
  clear hb
  go_wp2_with fail
  refine (HBa.out _ (hT.below hB1) (hn.below hB1)).mono ?_
  rintro x' w2 ⟨rfl, hb⟩
  have hB2 := hB1.trans (hb.mono hB1.size)
  have e0 := keep hb e0
  have e1 := keep hb e1
  have e2 := keep hb e2
  have e3 := keep hb e3
  have e4 := keep hb e4
  clear hb
  go_wp2_with fail
  refine (HBb.out _ (hT.below hB2) (hn.below hB2)).mono ?_
  rintro x' w3 ⟨rfl, hb⟩
  have hB3 := hB2.trans (hb.mono hB2.size)
  have e0 := keep hb e0
  have e1 := keep hb e1
  have e2 := keep hb e2
  have e3 := keep hb e3
  have e4 := keep hb e4
  clear hb
  go_wp2_with fail
  refine (HBj.out _ (hT.below hB3) (hn.below hB3)).mono ?_
  rintro x' w4 ⟨rfl, hb⟩
  have hB4 := hB3.trans (hb.mono hB3.size)
  clear hb e0 e1 e2 e3 e4
  go_wp2_with fail
  refine (Hlow.out _).mono ?_
  rintro x' w5 ⟨rfl, rfl⟩
  have hj := Hj.out
  have hsub := Hsub.out
  have h0 : ((0 : Nat) : Int) = 0 := rfl
  rw [h0] at hsub
  go_wp2
  go_ret
  exact ⟨by first | rfl | simp, hB4⟩
end Go.Proofs.YtngmcbliihohcaaDoor
