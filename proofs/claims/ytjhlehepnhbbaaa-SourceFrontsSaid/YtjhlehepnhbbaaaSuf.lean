/-
  Suffix of layer 19, of both: the places between two that do not happen behind the first one, and the second one's.
-/
import Derived.Test.YtjhlehepnhbbaaaRaceB
import Derived.Test.YtjhlehepnhbbaaaInitA
import Derived.OwnWalk
set_option linter.unusedSimpArgs false
set_option linter.unusedVariables false
namespace Go.Proofs.Ytjhlehepnhbbaaa
open Go.ChangeShapes Go.WideShapes Go.ChangeAt Go.RowKit Go.Deep

noncomputable def sufRes (n : Nat) (l : List Ev) (i j : Int) : List Int × Int := if wrongS n l ≠ 0 then ([], wrongS n l) else if i < 0 ∨ (n : Int) ≤ j ∨ j ≤ i then ([], 190) else (natsI (restP (rD l) i.toNat j.toNat) ++ [j], 0)
theorem sufRes_bad {n : Nat} {l : List Ev} {i j : Int} (h : wrongS n l ≠ 0) : sufRes n l i j = ([], wrongS n l) := if_pos h
theorem sufRes_out {n : Nat} {l : List Ev} {i j : Int} (h : wrongS n l = 0) (hi : i < 0 ∨ (n : Int) ≤ j ∨ j ≤ i) : sufRes n l i j = ([], 190) := by unfold sufRes; rw [if_neg (by rw [h]; simp), if_pos hi]
theorem sufRes_in {n : Nat} {l : List Ev} {i j : Nat} (h : wrongS n l = 0) (hij : i < j) (hj : j < n) : sufRes n l (i : Int) (j : Int) = (natsI (restP (rD l) i j) ++ [(j : Int)], 0) := by
  unfold sufRes; rw [if_neg (by rw [h]; simp), if_neg (by omega), Int.toNat_natCast, Int.toNat_natCast]
theorem restP_lt {r : Nat → Nat → Bool} {k N j : Nat} (h : j ∈ restP r k N) : j < N := (restP_mem.1 h).1
theorem sufRes_fit (n : Nat) (l : List Ev) (i j : Int) : ∀ x ∈ (sufRes n l i j).1, Fit x := by
  unfold sufRes
  split
  · intro x hx; cases hx
  · rename_i hz
    have hz : wrongS n l = 0 := by simpa using hz
    have hn : n ≤ 100 := by
      by_cases h2 : 100 < n
      · rw [wrongS, if_pos h2] at hz; cases hz
      · omega
    split
    · intro x hx; cases hx
    · rename_i ho
      intro x hx
      rcases List.mem_append.1 hx with hx | hx
      · obtain ⟨q, hq, rfl⟩ := List.mem_map.1 hx
        have := restP_lt hq
        exact Fit.of (by omega) (by omega)
      · rw [List.mem_singleton.1 hx]
        exact Fit.of (by omega) (by omega)

set_option maxRecDepth 20000 in
set_option maxHeartbeats 4000000 in
theorem srest_calls {w : World} {B b : Nat} {v : Value} {l : List Ev} {n : Nat} (h : OrdAt w B b v l n) (hg : GoodL n l) {i j : Nat} (hij : i < j) (hj : j ≤ n) :
    Calls Try.prog 64 #[.pointer (some ⟨b, 0, none⟩), .int .i64 (i : Int), .int .i64 (j : Int)] w (OwnsPost eltI w (natsI (restP (rD l) i j))) := by
  have hn := hg.le
  have HO := Lib.hid h
  have HG := Lib.hid hg
  clear h hg
  obtain ⟨i0, hi0, hz0, hz1, hz2⟩ := info_parts infoInt
  have Hi := Lib.hid hi0
  have Hz0 := Lib.hid hz0
  have Hz1 := Lib.hid hz1
  have Hz2 := Lib.hid hz2
  clear hi0 hz0 hz1 hz2
  go_enter Try.func64, Try.ntmps64
  go_wp2_with (refine wpList_make_own _ rfl _ (.tmp 11) 29 rfl w.heap.size 3 i0 (.int .i64 0) 1 Try.underlying29 Hi.out Hz0.out Hz1.out .i64 .i64 ((j : Int) - (i : Int)) (j - i) rfl rfl (by omega) (by rw [Hz2.out]; omega) (by unfold maxLen; omega) (Nat.le_refl _) ?_; intro w3 hown hgr)
  have hb3 : Below w.heap.size w w3 := (Below.refl _ w).grown hgr (Nat.le_refl _) (fun k hk => by cases hk)
  have hO3 : OwnL eltI w3 w.heap.size (.slice (some ⟨w.heap.size, 0, none⟩) 0 (j - i)) (natsI (restP (rD l) i (i + 1))) := by rw [restP_start]; exact ⟨hown⟩
  have HO3 := Lib.hid (And.intro hO3 hb3)
  clear hown hgr hb3 hO3 Hi Hz0 Hz1 Hz2
  go_wp2_with fail
  go_loopw [7, 8] (fun u x wr => ∃ k : Nat, i < k ∧ k ≤ j ∧ x = .int .i64 k ∧ Hid (OwnL eltI wr w.heap.size u (natsI (restP (rD l) i k)) ∧ Below w.heap.size w wr)) (fun _ x _ => j - (intOf x).toNat)
  case atStart => exact ⟨i + 1, by omega, by omega, by go_num, HO3.out⟩
  case round =>
    clear HO3
    obtain ⟨k, hik, hkj, rfl, HL⟩ := hrel
    by_cases hkj2 : k < j
    · have Hlen : Hid ((natsI (restP (rD l) i k)).length < 1000000) := by rw [Hid, natsI_len]; have := restP_len (rD l) i k; omega
      go_wp2_with fail
      refine (before_calls (HO.out.below HL.out.2) HG.out (i : Int) (k : Int)).mono ?_
      rintro e wy ⟨rfl, hb⟩
      have HL := Lib.hid (And.intro (HL.out.1.below hb) (HL.out.2.trans (hb.mono HL.out.2.size)))
      clear hb
      rw [befB_nat (by omega) (by omega)]
      have Hs := Lib.hid (restP_succ (r := rD l) hik)
      rcases Bool.eq_false_or_eq_true (hbB (rD l) i k) with hb | hb
      · rw [hb]
        have HN : Hid (OwnL eltI wy w.heap.size u7 (natsI (restP (rD l) i (k + 1))) ∧ Below w.heap.size w wy) := by rw [Hs.out, hb, if_pos rfl, List.append_nil]; exact HL.out
        clear hb HL Hs
        go_wp2
        go_roundw
        case rel => exact ⟨k + 1, by omega, hkj2, by go_num, HN.out⟩
        case measure => simp [intOf]; omega
      · rw [hb]
        have Hs2 : Hid (natsI (restP (rD l) i (k + 1)) = natsI (restP (rD l) i k) ++ [(k : Int)]) := by rw [Hid, Hs.out, hb, if_neg (by simp), natsI_app]; rfl
        clear hb Hs
        go_wp2_with (at_builtin; go_loud (refine wpList_push eltI rfl (.tmp 25) (.tmp 27) rfl (k : Int) rfl rfl rfl HL.out.1 HL.out.2.size Hlen.out ?_); intro v' wz hown hw hv; (have HL' := Lib.hid (And.intro (show OwnL eltI wz w.heap.size v' (natsI (restP (rD l) i (k + 1))) by rw [Hs2.out]; exact hown) (Wrote.below HL.out.2 hw HL.out.2.size (fun q hq => (HL.out.1.lt hq).1)))); clear hown hw hv)
        go_roundw
        case rel => exact ⟨k + 1, by omega, hkj2, by go_num, HL'.out⟩
        case measure => simp [intOf]; omega
    · have hkj3 : k = j := by omega
      subst hkj3
      go_wp2
      go_ret
      exact ⟨_, rfl, HL.out⟩

set_option maxRecDepth 20000 in
set_option maxHeartbeats 8000000 in
theorem suffix_calls {w : World} {a0 : Option Addr} {n c : Nat} {l : List Ev} (h : IsEvs w a0 n c l) (i j : Int) :
    Calls Try.prog 33 #[.slice a0 n c, .int .i64 i, .int .i64 j] w (RacePost w (sufRes n l i j)) := by
  have hnm : n ≤ 9223372036854775807 := by have := h.le; have := h.cap; unfold maxLen at *; omega
  have Hev := Lib.hid h
  have Ho := Lib.hid (order_calls h)
  clear h
  go_enter Try.func33, Try.ntmps33
  go_wp2_with fail
  refine Ho.out.mono ?_
  rintro e w2 ⟨hb1, ⟨hz, rfl⟩ | ⟨hz, hg, b, v, rfl, hO⟩⟩
  · have HB1 := Lib.hid hb1
    have hz' : (wrongS n l != 0) = true := by simpa [bne] using hz
    have Hq : Hid (RacePost w (sufRes n l i j) (.returned (.tuple #[.slice none 0 0, .int .i64 (wrongS n l)])) w2) := by rw [Hid, sufRes_bad hz]; exact RacePost.none HB1.out
    clear hb1 hz Ho
    generalize wrongS n l = z at *
    go_wp2
    go_returns
    exact Hq.out
  have HB2 := Lib.hid hb1
  have HO2 := Lib.hid hO
  have HG := Lib.hid hg
  have hn100 : n ≤ 100 := hg.le
  have Hz := Lib.hid hz
  clear hb1 hg hO hz Ho hnm
  by_cases hi0 : i < 0
  · have hd0 : decide (i < 0) = true := decide_eq_true hi0
    have Hq : Hid (RacePost w (sufRes n l i j) (.returned (.tuple #[.slice none 0 0, .int .i64 190])) (w2)) := by rw [Hid, sufRes_out Hz.out (.inl hi0)]; exact RacePost.none HB2.out
    clear hi0
    go_wp2
    go_returns
    exact Hq.out
  have hd0 : decide (i < 0) = false := decide_eq_false hi0
  by_cases hjn : (n : Int) ≤ j
  · have hd1 : decide ((n : Int) ≤ j) = true := decide_eq_true hjn
    have Hq : Hid (RacePost w (sufRes n l i j) (.returned (.tuple #[.slice none 0 0, .int .i64 190])) (w2)) := by rw [Hid, sufRes_out Hz.out (.inr (.inl hjn))]; exact RacePost.none HB2.out
    clear hi0 hjn
    go_wp2
    go_returns
    exact Hq.out
  have hd1 : decide ((n : Int) ≤ j) = false := decide_eq_false hjn
  by_cases hij : j ≤ i
  · have hd2 : decide (j ≤ i) = true := decide_eq_true hij
    have Hq : Hid (RacePost w (sufRes n l i j) (.returned (.tuple #[.slice none 0 0, .int .i64 190])) (w2)) := by rw [Hid, sufRes_out Hz.out (.inr (.inr hij))]; exact RacePost.none HB2.out
    clear hi0 hjn hij
    go_wp2
    go_returns
    exact Hq.out
  have hd2 : decide (j ≤ i) = false := decide_eq_false hij
  have Hres : Hid (∃ i' j' : Nat, i = (i' : Int) ∧ j = (j' : Int) ∧ i' < j' ∧ j' < n) := ⟨i.toNat, j.toNat, by omega, by omega, by omega, by omega⟩
  obtain ⟨i', j', rfl, rfl, hlt, hjn'⟩ := Hres.out
  have Hr : Hid (sufRes n l (i' : Int) (j' : Int) = (natsI (restP (rD l) i' j') ++ [(j' : Int)], 0)) := sufRes_in Hz.out hlt hjn'
  have hd1n : decide (n ≤ j') = false := decide_eq_false (by omega)
  have hd2n : decide (j' ≤ i') = false := decide_eq_false (by omega)
  have Hlen : Hid ((natsI (restP (rD l) i' j')).length < 1000000) := by rw [Hid, natsI_len]; have := restP_len (rD l) i' j'; omega
  clear hi0 hjn hij Hres
  go_wp2_with fail
  refine (srest_calls HO2.out HG.out hlt (Nat.le_of_lt hjn')).mono ?_
  rintro e w4 ⟨u, rfl, hown, hb⟩
  have HB4 := Lib.hid (HB2.out.trans (hb.mono HB2.out.size))
  have HO4 := Lib.hid (And.intro hown hb)
  have hsz : w2.heap.size ≤ w4.heap.size := hb.size
  clear hown hb
  go_wp2_with (at_builtin; go_loud (refine wpList_push eltI rfl (.tmp 34) (.tmp 36) rfl (j' : Int) rfl rfl rfl HO4.out.1 hsz Hlen.out ?_); intro v' w5 hown hw hv; (have Hq : Hid (RacePost w (sufRes n l (i' : Int) (j' : Int)) (.returned (.tuple #[v', .int .i64 0])) w5) := by rw [Hid, Hr.out]; exact ⟨v', rfl, ⟨ownsRow_base hown.own HB2.out.size⟩, HB2.out.trans ((Wrote.below HO4.out.2 hw hsz (fun q hq => (HO4.out.1.lt hq).1)).mono HB2.out.size)⟩); clear hown hw hv)
  go_wp2
  go_returns
  exact Hq.out

set_option maxRecDepth 20000 in
set_option maxHeartbeats 8000000 in
theorem rsuffix_calls {w : World} {a0 : Option Addr} {n c : Nat} {l : List Ev} (h : IsEvs w a0 n c l) (i j : Int) :
    Calls Try.prog 34 #[.slice a0 n c, .int .i64 i, .int .i64 j] w (RacePost w (sufRes n l i j)) := by
  have hnm : n ≤ 9223372036854775807 := by have := h.le; have := h.cap; unfold maxLen at *; omega
  have Hev := Lib.hid h
  have Ho := Lib.hid (rord_calls h)
  clear h
  go_enter Try.func34, Try.ntmps34
  go_wp2_with fail
  refine Ho.out.mono ?_
  rintro e w1 ⟨hb1, ⟨hz, rfl⟩ | ⟨hz, v1, v2, rfl, hM1, hM2⟩⟩
  · have HB1 := Lib.hid hb1
    have hz' : (wrongS n l != 0) = true := by simpa [bne] using hz
    have Hq : Hid (∀ x, RacePost w (sufRes n l i j) (.returned (.tuple #[.slice none 0 0, .int .i64 (wrongS n l)])) (w1.alloc x)) := fun x => by rw [sufRes_bad hz]; exact RacePost.none (HB1.out.alloc HB1.out.size _)
    clear hb1 hz Ho
    generalize wrongS n l = z at *
    go_wp2
    go_returns
    exact Hq.out _
  have hn100 : n ≤ 100 := by
    by_cases h : 100 < n
    · rw [wrongS, if_pos h] at hz; cases hz
    · omega
  have Hz := Lib.hid hz
  obtain ⟨sa, sp, sq, rfl⟩ := hM1.slice
  obtain ⟨ta, tp, tq, rfl⟩ := hM2.slice
  have hal : Below w1.heap.size w1 (w1.alloc (.cells #[.slice a0 n c, .slice sa sp sq, .slice ta tp tq] 93)) := (Below.refl _ w1).alloc (Nat.le_refl _) _
  have hR3 : ROrdAt (w1.alloc (.cells #[.slice a0 n c, .slice sa sp sq, .slice ta tp tq] 93)) w1.heap.size a0 n c (.slice sa sp sq) (.slice ta tp tq) l :=
    ⟨(MapKept.heap_alloc w1 _).1, ⟨_, hM1.below hal⟩, ⟨_, hM2.below hal⟩, (Hev.out.below hb1).below hal⟩
  have HX := Lib.hid (And.intro hR3 (hb1.trans (hal.mono hb1.size)))
  clear hb1 hal hR3 hM1 hM2 Ho hz hnm
  by_cases hi0 : i < 0
  · have hd0 : decide (i < 0) = true := decide_eq_true hi0
    have Hq : Hid (RacePost w (sufRes n l i j) (.returned (.tuple #[.slice none 0 0, .int .i64 190])) (w1.alloc (.cells #[.slice a0 n c, .slice sa sp sq, .slice ta tp tq] 93))) := by rw [Hid, sufRes_out Hz.out (.inl hi0)]; exact RacePost.none HX.out.2
    clear hi0
    go_wp2
    go_returns
    exact Hq.out
  have hd0 : decide (i < 0) = false := decide_eq_false hi0
  by_cases hjn : (n : Int) ≤ j
  · have hd1 : decide ((n : Int) ≤ j) = true := decide_eq_true hjn
    have Hq : Hid (RacePost w (sufRes n l i j) (.returned (.tuple #[.slice none 0 0, .int .i64 190])) (w1.alloc (.cells #[.slice a0 n c, .slice sa sp sq, .slice ta tp tq] 93))) := by rw [Hid, sufRes_out Hz.out (.inr (.inl hjn))]; exact RacePost.none HX.out.2
    clear hi0 hjn
    go_wp2
    go_returns
    exact Hq.out
  have hd1 : decide ((n : Int) ≤ j) = false := decide_eq_false hjn
  by_cases hij : j ≤ i
  · have hd2 : decide (j ≤ i) = true := decide_eq_true hij
    have Hq : Hid (RacePost w (sufRes n l i j) (.returned (.tuple #[.slice none 0 0, .int .i64 190])) (w1.alloc (.cells #[.slice a0 n c, .slice sa sp sq, .slice ta tp tq] 93))) := by rw [Hid, sufRes_out Hz.out (.inr (.inr hij))]; exact RacePost.none HX.out.2
    clear hi0 hjn hij
    go_wp2
    go_returns
    exact Hq.out
  have hd2 : decide (j ≤ i) = false := decide_eq_false hij
  have Hres : Hid (∃ i' j' : Nat, i = (i' : Int) ∧ j = (j' : Int) ∧ i' < j' ∧ j' < n) := ⟨i.toNat, j.toNat, by omega, by omega, by omega, by omega⟩
  obtain ⟨i', j', rfl, rfl, hlt, hjn'⟩ := Hres.out
  have Hr : Hid (sufRes n l (i' : Int) (j' : Int) = (natsI (restP (rD l) i' j') ++ [(j' : Int)], 0)) := sufRes_in Hz.out hlt hjn'
  have hd1n : decide (n ≤ j') = false := decide_eq_false (by omega)
  have hd2n : decide (j' ≤ i') = false := decide_eq_false (by omega)
  have Hlen : Hid ((natsI (restP (rD l) i' j')).length < 1000000) := by rw [Hid, natsI_len]; have := restP_len (rD l) i' j'; omega
  clear hi0 hjn hij Hres
  go_wp2_with fail
  revert HX
  generalize w1.alloc (.cells #[.slice a0 n c, .slice sa sp sq, .slice ta tp tq] 93) = w2
  intro HX
  have HR := Lib.hid HX.out.1
  have HB2 := Lib.hid HX.out.2
  clear HX
  obtain ⟨rb, hrb⟩ : ∃ rb, rb = w1.heap.size := ⟨_, rfl⟩
  rw [← hrb] at HR ⊢
  clear hrb
  refine (rrest_calls HR.out hn100 (Nat.le_of_lt hjn') hlt).mono ?_
  rintro e w4 ⟨u, rfl, hown, hb⟩
  have HB4 := Lib.hid (HB2.out.trans (hb.mono HB2.out.size))
  have HO4 := Lib.hid (And.intro hown hb)
  have hsz : w2.heap.size ≤ w4.heap.size := hb.size
  clear hown hb
  go_wp2_with (at_builtin; go_loud (refine wpList_push eltI rfl (.tmp 35) (.tmp 37) rfl (j' : Int) rfl rfl rfl HO4.out.1 hsz Hlen.out ?_); intro v' w5 hown hw hv; (have Hq : Hid (RacePost w (sufRes n l (i' : Int) (j' : Int)) (.returned (.tuple #[v', .int .i64 0])) w5) := by rw [Hid, Hr.out]; exact ⟨v', rfl, ⟨ownsRow_base hown.own HB2.out.size⟩, HB2.out.trans ((Wrote.below HO4.out.2 hw hsz (fun q hq => (HO4.out.1.lt hq).1)).mono HB2.out.size)⟩); clear hown hw hv)
  go_wp2
  go_returns
  exact Hq.out

set_option maxRecDepth 20000 in
set_option maxHeartbeats 4000000 in
theorem sourceSuffix_law {w : World} {a0 : Option Addr} {n c : Nat} {l : List Ev} (h : IsEvs w a0 n c l) (i j : Int) :
    Calls Try.prog 10 #[.slice a0 n c, .int .i64 i, .int .i64 j] w fun e w' => e = .returned (.bool true) ∧ Below w.heap.size w w' := by
  have Hev := Lib.hid h
  have Hfit := Lib.hid (sufRes_fit n l i j)
  clear h
  go_enter Try.func10, Try.ntmps10
  go_wp2_with fail
  refine (awake19_calls _).mono ?_
  rintro e w1 ⟨rfl, hb⟩
  have HB1 := Lib.hid hb
  clear hb
  go_wp2_with fail
  refine (suffix_calls (Hev.out.below HB1.out) i j).mono ?_
  rintro e w2 ⟨v, rfl, hown, hb⟩
  have HO2 := Lib.hid hown
  have HB2 := Lib.hid (HB1.out.trans (hb.mono HB1.out.size))
  clear hown hb
  go_wp2_with fail
  refine (rsuffix_calls (Hev.out.below HB2.out) i j).mono ?_
  rintro e w3 ⟨u, rfl, hown, hb⟩
  have HO2 := Lib.hid (HO2.out.below hb)
  have HO3 := Lib.hid hown
  have HB3 := Lib.hid (HB2.out.trans (hb.mono HB2.out.size))
  clear hown hb
  revert Hfit HO2 HO3
  generalize sufRes n l i j = r
  obtain ⟨xs, z⟩ := r
  intro Hfit HO2 HO3
  obtain ⟨a1, c1, rfl, h1⟩ := HO2.out.ints Hfit.out
  obtain ⟨a2, c2, rfl, h2⟩ := HO3.out.ints Hfit.out
  have Hi := Lib.hid (And.intro h1 h2)
  clear h1 h2
  go_wp2_with fail
  refine (equal_calls Hi.out.1 Hi.out.2).mono ?_
  rintro e w4 ⟨rfl, hb⟩
  have HB4 := Lib.hid (HB3.out.trans (hb.mono HB3.out.size))
  clear hb
  have hxx : decide (xs = xs) = true := by simp
  have hzz : (z == z) = true := by simp
  rw [hxx]
  clear hxx
  go_wp2
  go_ret
  exact ⟨rfl, HB4.out⟩
end Go.Proofs.Ytjhlehepnhbbaaa
