/-
  RaceBeside: two events beside one another are a race just if the second one's step can come ahead of the first one.
-/
import Derived.Test.YthooddkoldfebaaRaceC
set_option linter.unusedSimpArgs false
set_option linter.unusedVariables false
namespace Go.Proofs.Ythooddkoldfebaa
open Go.ChangeShapes Go.WideShapes Go.ChangeAt Go.RowKit Go.Deep

theorem two_new (w : World) (A B : Array Value) (t t' : TypeId) : ((w.alloc (.cells A t)).alloc (.cells B t')).heap[w.heap.size]? = some (.cells A t (0, 0)) ∧
    ((w.alloc (.cells A t)).alloc (.cells B t')).heap[w.heap.size + 1]? = some (.cells B t' (0, 0)) ∧ Below w.heap.size w ((w.alloc (.cells A t)).alloc (.cells B t')) := by
  have hA := (MapKept.heap_alloc w (.cells A t)).1
  have hB := heap_alloc1 w A B t t'
  have b1 : Below w.heap.size w (w.alloc (.cells A t)) := (Below.refl _ w).alloc (Nat.le_refl _) _
  have b2 : Below (w.alloc (.cells A t)).heap.size (w.alloc (.cells A t)) ((w.alloc (.cells A t)).alloc (.cells B t')) := (Below.refl _ _).alloc (Nat.le_refl _) _
  exact ⟨(b2.block w.heap.size (by simp)).trans hA, hB, b1.trans (b2.mono (by simp))⟩
theorem mem_take_succ {R : List Nat} {m q k : Nat} (h : R[m]? = some q) : decide (k ∈ R.take (m + 1)) = (decide (k ∈ R.take m) || decide (q = k)) := by
  rw [Bool.eq_iff_iff, List.take_add_one, h]
  simp only [Option.toList, List.mem_append, List.mem_singleton, Bool.or_eq_true, decide_eq_true_iff]
  constructor
  · rintro (h | h)
    · exact .inl h
    · exact .inr h.symm
  · rintro (h | h)
    · exact .inl h
    · exact .inr h.symm

set_option maxRecDepth 20000 in
set_option maxHeartbeats 8000000 in
theorem raceBeside_law {w : World} {a0 : Option Addr} {n c : Nat} {l : List Ev} (h : IsEvs w a0 n c l) (i : Int) :
    Calls Try.prog 10 #[.slice a0 n c, .int .i64 i] w fun e w' => e = .returned (.bool true) ∧ Below w.heap.size w w' := by
  have hnm : n ≤ 9223372036854775807 := by have := h.le; have := h.cap; unfold maxLen at *; omega
  have Hev := Lib.hid h
  clear h
  go_enter Try.func10, Try.ntmps10
  go_wp2_with fail
  refine (rawake_calls _).mono ?_
  rintro e w1 ⟨rfl, hb⟩
  have HB1 := Lib.hid hb
  clear hb
  go_wp2_with fail
  refine (rwrong_calls (Hev.out.below HB1.out)).mono ?_
  rintro e w2 ⟨rfl, hb⟩
  have HB2 := Lib.hid (HB1.out.trans (hb.mono HB1.out.size))
  clear hb HB1
  by_cases hz : wrongS n l = 0
  case neg =>
    have hz' : (wrongS n l != 0) = true := by simpa [bne] using hz
    clear hz
    generalize wrongS n l = z at *
    go_wp2
    go_ret
    exact ⟨rfl, HB2.out⟩
  obtain ⟨S0, hS0⟩ := wrong_ofS hz
  have hn100 : n ≤ 100 := wrong_le hz
  have Hz := Lib.hid hz
  have HS0 := Lib.hid hS0
  have HG : Hid (GoodL n l) := good_of Hev.out hn100 hS0
  rw [hz]
  clear hz hS0
  have hwn : RowKit.wrap64 ((n : Int) - 1) = (n : Int) - 1 := wrap64_fit (by omega) (by omega)
  by_cases hi0 : i < 0
  · have hd0 : decide (i < 0) = true := decide_eq_true hi0
    clear hi0
    go_wp2
    go_ret
    exact ⟨rfl, HB2.out⟩
  have hd0 : decide (i < 0) = false := decide_eq_false hi0
  by_cases hin : (n : Int) - 1 ≤ i
  · have hd2 : decide ((n : Int) - 1 ≤ i) = true := decide_eq_true hin
    clear hi0 hin
    go_wp2
    go_ret
    exact ⟨rfl, HB2.out⟩
  have hd2 : decide ((n : Int) - 1 ≤ i) = false := decide_eq_false hin
  obtain ⟨k, rfl⟩ := Int.eq_ofNat_of_zero_le (show 0 ≤ i by omega)
  have hk : k + 1 < n := by omega
  have hwk : RowKit.wrap64 ((k : Int) + 1) = (k : Int) + 1 := wrap64_fit (by omega) (by omega)
  clear hi0 hin
  have hnc : n ≤ c := Hev.out.le
  have Hl := Lib.hid Hev.out.len
  obtain ⟨bl, off, x, rfl, hx, _, c0, c1, c2, c3, c4⟩ := (Hev.out.below HB2.out).at (show k < n by omega)
  obtain ⟨bl', off', y, he, hy, _, d0, d1, d2, d3, d4⟩ := (Hev.out.below HB2.out).at hk
  cases he
  have Hx := Lib.hid hx
  have Hy := Lib.hid hy
  obtain ⟨xt, xk, xo, xv, xb⟩ := x
  obtain ⟨yt, yk, yo, yv, yb⟩ := y
  simp only at c0 c1 c2 c3 c4 d0 d1 d2 d3 d4
  clear hx hy
  have hal : Below w2.heap.size w2 (w2.alloc (.cells #[.int .i64 xt, .int .i64 xk, .int .i64 xo, .int .i64 xv, .int .i64 xb] 33)) := (Below.refl _ w2).alloc (Nat.le_refl _) _
  have e0 := keep hal d0
  have e1 := keep hal d1
  have e2 := keep hal d2
  have e3 := keep hal d3
  have e4 := keep hal d4
  clear hal
  go_wp2_with fail
  have hN := two_new w2 #[.int .i64 xt, .int .i64 xk, .int .i64 xo, .int .i64 xv, .int .i64 xb] #[.int .i64 yt, .int .i64 yk, .int .i64 yo, .int .i64 yv, .int .i64 yb] 33 33
  revert hN
  generalize (w2.alloc (.cells #[.int .i64 xt, .int .i64 xk, .int .i64 xo, .int .i64 xv, .int .i64 xb] 33)).alloc (.cells #[.int .i64 yt, .int .i64 yk, .int .i64 yo, .int .i64 yv, .int .i64 yb] 33) = w3
  intro hN
  have HB3 := Lib.hid (HB2.out.trans (hN.2.2.mono HB2.out.size))
  have hA := hN.1
  have hB := hN.2.1
  clear hN c0 c1 c2 c3 c4 d0 d1 d2 d3 d4 e0 e1 e2 e3 e4
  obtain ⟨g0, hg0⟩ : ∃ g0, g0 = w2.heap.size := ⟨_, rfl⟩
  rw [← hg0] at hA hB ⊢
  have c0 : w3.cell? ⟨g0, 0, none⟩ = some (.int .i64 xt) := cell_of_block hA
  have c1 : w3.cell? ⟨g0, 1, none⟩ = some (.int .i64 xk) := cell_of_block hA
  have c2 : w3.cell? ⟨g0, 2, none⟩ = some (.int .i64 xo) := cell_of_block hA
  have c3 : w3.cell? ⟨g0, 3, none⟩ = some (.int .i64 xv) := cell_of_block hA
  have c4 : w3.cell? ⟨g0, 4, none⟩ = some (.int .i64 xb) := cell_of_block hA
  have d0 : w3.cell? ⟨g0 + 1, 0, none⟩ = some (.int .i64 yt) := cell_of_block hB
  have d1 : w3.cell? ⟨g0 + 1, 1, none⟩ = some (.int .i64 yk) := cell_of_block hB
  have d2 : w3.cell? ⟨g0 + 1, 2, none⟩ = some (.int .i64 yo) := cell_of_block hB
  have d3 : w3.cell? ⟨g0 + 1, 3, none⟩ = some (.int .i64 yv) := cell_of_block hB
  have d4 : w3.cell? ⟨g0 + 1, 4, none⟩ = some (.int .i64 yb) := cell_of_block hB
  clear hA hB hg0
  refine (lof_ok (evs_take (Hev.out.below HB3.out) (show k ≤ n by omega)) (by omega) (ofS_take HS0.out k)).mono ?_
  rintro e w4 ⟨lb, vl, va, rfl, hL, hb⟩
  have HL := Lib.hid hL
  have HB4 := Lib.hid (HB3.out.trans (hb.mono HB3.out.size))
  have c0 := keep hb c0
  have c1 := keep hb c1
  have c2 := keep hb c2
  have c3 := keep hb c3
  have c4 := keep hb c4
  have d0 := keep hb d0
  have d1 := keep hb d1
  have d2 := keep hb d2
  have d3 := keep hb d3
  have d4 := keep hb d4
  clear hb hL
  go_wp2_with fail
  refine (can_calls HL.out yt yk yo).mono ?_
  rintro e w5 ⟨rfl, hb⟩
  have HB5 := Lib.hid (HB4.out.trans (hb.mono HB4.out.size))
  have c0 := keep hb c0
  have c1 := keep hb c1
  have c2 := keep hb c2
  have c3 := keep hb c3
  have c4 := keep hb c4
  have d0 := keep hb d0
  have d1 := keep hb d1
  have d2 := keep hb d2
  have d3 := keep hb d3
  have d4 := keep hb d4
  clear hb
  have HP : Hid (canB (takes log0 (l.take k)) yt yk yo = canB (takes log0 (l.take k)) yt yk yo) := rfl
  revert HP
  generalize hp : canB (takes log0 (l.take k)) yt yk yo = p
  intro HP
  have Hp := Lib.hid hp
  clear hp HP
  go_wp2_with fail
  refine (rdep_calls xt xk xo xv xb yt yk yo yv yb _).mono ?_
  rintro e w6 ⟨rfl, hb⟩
  have HB6 := Lib.hid (HB5.out.trans (hb.mono HB5.out.size))
  have c0 := keep hb c0
  have d0 := keep hb d0
  clear hb c1 c2 c3 c4 d1 d2 d3 d4
  have HQ : Hid (rdepB xt xk xo yt yk yo = rdepB xt xk xo yt yk yo) := rfl
  revert HQ
  generalize hq : rdepB xt xk xo yt yk yo = q
  intro HQ
  have Hq := Lib.hid hq
  clear hq HQ
  go_wp2_with fail
  refine (raceOf_calls (Hev.out.below HB6.out) ((k : Int) + 1)).mono ?_
  rintro e w7 ⟨v, rfl, hown, hb⟩
  have hcast : ((k : Int) + 1) = ((k + 1 : Nat) : Int) := by omega
  rw [show raceRes n l ((k : Int) + 1) = (natsI (racesAt l (k + 1)), 0) by rw [hcast]; exact raceRes_in Hz.out hk] at hown ⊢
  have HB7 := Lib.hid (HB6.out.trans (hb.mono HB6.out.size))
  have c0 := keep hb c0
  have d0 := keep hb d0
  obtain ⟨sa, sc, rfl, _, _⟩ := hown.int_at
  rw [natsI_len] at hown ⊢
  have Hown := Lib.hid hown
  have Hfin : Hid (decide (k ∈ racesAt l (k + 1)) = ((xt != yt && q) && p)) := by
    rw [Hid, Bool.eq_iff_iff, decide_eq_true_iff, beside_race, beside_cand, getD_of Hx.out, getD_of Hy.out, depends_is, Hq.out, Hp.out, thE_of Hx.out]
  have hRl := racesAt_len l (k + 1)
  clear hb hown hcast
  revert Hown Hfin hRl
  generalize racesAt l (k + 1) = R
  intro Hown Hfin hRl
  have hRw : R.length ≤ 9223372036854775807 := by omega
  go_wp2_with fail
  have Hm0 : Hid (decide (k ∈ R.take 0) = false) := by rw [Hid, List.take_zero]; exact decide_eq_false List.not_mem_nil
  go_loopw [16, 17] (fun u x wr => ∃ m : Nat, m ≤ R.length ∧ x = .int .i64 m ∧ u = .bool (decide (k ∈ R.take m)) ∧ Hid (Below w7.heap.size w7 wr)) (fun _ x _ => R.length - (intOf x).toNat)
  case atStart => exact ⟨0, Nat.zero_le _, by go_num, by rw [Hm0.out], Below.refl ..⟩
  case round =>
    obtain ⟨m, hm, rfl, rfl, HB⟩ := hrel
    by_cases hmR : m < R.length
    · obtain ⟨z, hz⟩ : ∃ z, R[m]? = some z := ⟨_, List.getElem?_eq_getElem hmR⟩
      obtain ⟨g, rfl, e0⟩ := Hown.out.nat_at hz
      have e0 := keep HB.out e0
      have Hm := Lib.hid (mem_take_succ (k := k) hz)
      have hz : True := trivial
      clear hz
      by_cases hzk : z = k
      · have hq : ((z : Int) == (k : Int)) = true := by simp; omega
        have Hm' : Hid (decide (k ∈ R.take (m + 1)) = true) := by rw [Hid, Hm.out, decide_eq_true hzk]; simp
        clear hzk
        go_wp2
        go_roundw
        case rel => exact ⟨m + 1, by omega, by go_num, by rw [Hm'.out], HB⟩
        case measure => simp [intOf]; omega
      · have hq : ((z : Int) == (k : Int)) = false := by simp; omega
        have Hm' : Hid (decide (k ∈ R.take (m + 1)) = decide (k ∈ R.take m)) := by rw [Hid, Hm.out, decide_eq_false hzk]; simp
        clear hzk
        go_wp2
        go_roundw
        case rel => exact ⟨m + 1, by omega, by go_num, by rw [Hm'.out], HB⟩
        case measure => simp [intOf]; omega
    · have hmR : m = R.length := by omega
      subst hmR
      rw [List.take_length, Hfin.out]
      have c0 := keep HB.out c0
      have d0 := keep HB.out d0
      rcases Bool.eq_false_or_eq_true (xt != yt) with ht | ht
      · rw [ht]
        cases p <;> cases q <;> (go_wp2; go_ret; exact ⟨rfl, HB7.out.trans (HB.out.mono HB7.out.size)⟩)
      · rw [ht]
        cases p <;> cases q <;> (go_wp2; go_ret; exact ⟨rfl, HB7.out.trans (HB.out.mono HB7.out.size)⟩)
end Go.Proofs.Ythooddkoldfebaa
