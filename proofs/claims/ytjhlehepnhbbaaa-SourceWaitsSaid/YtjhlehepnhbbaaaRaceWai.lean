/-
  RaceWaiting: the races of any action of any thread behind all events, of both; the law.
-/
import Derived.Test.YtjhlehepnhbbaaaRaceB
set_option linter.unusedSimpArgs false
set_option linter.unusedVariables false
namespace Go.Proofs.Ytjhlehepnhbbaaa
open Go.ChangeShapes Go.WideShapes Go.ChangeAt Go.RowKit Go.Deep

set_option maxRecDepth 100000 in
theorem open_act {H : Type} {enc : TypeId × Value → H} {w : World} {r : Reach} {b0 : Nat} {v : Value} {d : DataW H} {p : List MemPlace} (hv : Value.okWide Try.prog w r b0 50 v) (h : DataW.Trod enc Try.prog w 0 (fun _ => true) true 50 v d p) :
    ∃ e : Ac, v = .agg #[.int .i64 e.k, .int .i64 e.o] ∧ e.wf := by
  obtain ⟨zs, rfl, hl, hw⟩ := open_flat Try.underlying50 (by kernel_rfl) (by kernel_rfl) hv h
  match zs, hl with
  | [k, o], _ => exact ⟨⟨k, o⟩, rfl, hw k (by simp), hw o (by simp)⟩

/-- May the action be one of a thread that runs? -/
def mayB (S : LogS) (t k o : Int) : Bool := (statB S t == 2) && rightB t k o (if k == 8 then 1 else 0) 0
theorem mayB_fits {S : LogS} {t k o : Int} : mayB S t k o = (fitsB t k o && (S.st t.toNat == 2)) := by
  unfold mayB fitsB
  cases hr : rightB t k o (if k == 8 then 1 else 0) 0
  · simp
  · have := right_in hr
    unfold statB
    rw [if_pos this]
    simp
theorem one_new (w : World) (A : Array Value) (t : TypeId) : (w.alloc (.cells A t)).heap[w.heap.size]? = some (.cells A t (0, 0)) ∧ Below w.heap.size w (w.alloc (.cells A t)) := ⟨(MapKept.heap_alloc w (.cells A t)).1, (Below.refl _ w).alloc (Nat.le_refl _) _⟩

set_option maxRecDepth 20000 in
set_option maxHeartbeats 4000000 in
theorem may_calls {w : World} {a0 : Option Addr} {n c : Nat} {l : List Ev} (h : IsEvs w a0 n c l) (hn : n ≤ 100) {S : LogS} (hR : ofS l = (S, 0, 0)) (t k o : Int) :
    Calls Try.prog 95 #[.slice a0 n c, .int .i64 t, .agg #[.int .i64 k, .int .i64 o]] w fun e w' => e = .returned (.bool (mayB S t k o)) ∧ Below w.heap.size w w' := by
  have Hev := Lib.hid h
  have HR := Lib.hid hR
  clear h hR
  go_enter Try.func95, Try.ntmps95
  go_wp2_with fail
  have hN := one_new w #[.int .i64 k, .int .i64 o] 50
  revert hN
  generalize w.alloc (.cells #[.int .i64 k, .int .i64 o] 50) = w1
  rintro ⟨hA, hb1⟩
  obtain ⟨g0, hg0⟩ : ∃ g0, g0 = w.heap.size := ⟨_, rfl⟩
  rw [← hg0] at hA ⊢
  have c0 : w1.cell? ⟨g0, 0, none⟩ = some (.int .i64 k) := cell_of_block hA
  have c1 : w1.cell? ⟨g0, 1, none⟩ = some (.int .i64 o) := cell_of_block hA
  have HB1 := Lib.hid hb1
  clear hA hg0 hb1
  refine (lof_ok (Hev.out.below HB1.out) (by omega) HR.out).mono ?_
  rintro e w2 ⟨lb, vl, va, rfl, hL, hb⟩
  have HL2 := Lib.hid hL
  have HB2 := Lib.hid (HB1.out.trans (hb.mono HB1.out.size))
  have c0 := keep hb c0
  have c1 := keep hb c1
  clear hb hL
  have Hv : Hid (mayB S t k o = mayB S t k o) := rfl
  by_cases hk : k = 8
  · have hk8 : (k == 8) = true := by simpa using hk
    have Hm : Hid (∀ s r, statB S t = s → rightB t k o 1 0 = r → mayB S t k o = ((s == 2) && r)) := fun s r h1 h2 => by unfold mayB; rw [hk8, h1, if_pos rfl, h2]
    clear hk
    have hal : Below w2.heap.size w2 (w2.alloc (.cells #[.int .i64 t, .int .i64 k, .int .i64 o, .int .i64 0, .int .i64 0] 36)) := (Below.refl _ w2).alloc (Nat.le_refl _) _
    have e0 := keep hal c0
    have e1 := keep hal c1
    clear hal
    go_wp2_with fail
    clear e0 e1
    have hN := one_new w2 #[.int .i64 t, .int .i64 k, .int .i64 o, .int .i64 1, .int .i64 0] 36
    revert hN
    generalize w2.alloc (.cells #[.int .i64 t, .int .i64 k, .int .i64 o, .int .i64 1, .int .i64 0] 36) = w3
    rintro ⟨hA, hb⟩
    obtain ⟨g1, hg1⟩ : ∃ g1, g1 = w2.heap.size := ⟨_, rfl⟩
    rw [← hg1] at hA ⊢
    have HB3 := Lib.hid (HB2.out.trans (hb.mono HB2.out.size))
    have HL3 := Lib.hid (HL2.out.below hb)
    have d0 : w3.cell? ⟨g1, 0, none⟩ = some (.int .i64 t) := cell_of_block hA
    have d1 : w3.cell? ⟨g1, 1, none⟩ = some (.int .i64 k) := cell_of_block hA
    have d2 : w3.cell? ⟨g1, 2, none⟩ = some (.int .i64 o) := cell_of_block hA
    have d3 : w3.cell? ⟨g1, 3, none⟩ = some (.int .i64 1) := cell_of_block hA
    have d4 : w3.cell? ⟨g1, 4, none⟩ = some (.int .i64 0) := cell_of_block hA
    clear hA hb hg1 HL2
    refine (status_calls HL3.out t).mono ?_
    rintro e w4 ⟨rfl, hb⟩
    have HB4 := Lib.hid (HB3.out.trans (hb.mono HB3.out.size))
    have d0 := keep hb d0
    have d1 := keep hb d1
    have d2 := keep hb d2
    have d3 := keep hb d3
    have d4 := keep hb d4
    clear hb HL3
    revert Hm
    generalize statB S t = s
    intro Hm
    by_cases hs : s = 2
    · have hs2 : (s == 2) = true := by simpa using hs
      clear hs
      go_wp2_with fail
      refine (right_calls t k o 1 0 _).mono ?_
      rintro e w5 ⟨rfl, hb⟩
      have HB5 := Lib.hid (HB4.out.trans (hb.mono HB4.out.size))
      have Hm2 := Lib.hid (Hm.out s _ rfl rfl)
      clear hb
      go_wp2
      go_ret
      exact ⟨by rw [Hm2.out, hs2]; rfl, HB5.out⟩
    · have hs2 : (s == 2) = false := by simpa using hs
      have Hm2 := Lib.hid (Hm.out s _ rfl rfl)
      clear hs
      go_wp2
      go_ret
      exact ⟨by rw [Hm2.out, hs2]; rfl, HB4.out⟩
  · have hk8 : (k == 8) = false := by simpa using hk
    have Hm : Hid (∀ s r, statB S t = s → rightB t k o 0 0 = r → mayB S t k o = ((s == 2) && r)) := fun s r h1 h2 => by unfold mayB; rw [hk8, h1, if_neg (by simp), h2]
    clear hk
    have hal : Below w2.heap.size w2 (w2.alloc (.cells #[.int .i64 t, .int .i64 k, .int .i64 o, .int .i64 0, .int .i64 0] 36)) := (Below.refl _ w2).alloc (Nat.le_refl _) _
    have e0 := keep hal c0
    have e1 := keep hal c1
    clear hal
    go_wp2_with fail
    clear e0 e1
    have hN := one_new w2 #[.int .i64 t, .int .i64 k, .int .i64 o, .int .i64 0, .int .i64 0] 36
    revert hN
    generalize w2.alloc (.cells #[.int .i64 t, .int .i64 k, .int .i64 o, .int .i64 0, .int .i64 0] 36) = w3
    rintro ⟨hA, hb⟩
    obtain ⟨g1, hg1⟩ : ∃ g1, g1 = w2.heap.size := ⟨_, rfl⟩
    rw [← hg1] at hA ⊢
    have HB3 := Lib.hid (HB2.out.trans (hb.mono HB2.out.size))
    have HL3 := Lib.hid (HL2.out.below hb)
    have d0 : w3.cell? ⟨g1, 0, none⟩ = some (.int .i64 t) := cell_of_block hA
    have d1 : w3.cell? ⟨g1, 1, none⟩ = some (.int .i64 k) := cell_of_block hA
    have d2 : w3.cell? ⟨g1, 2, none⟩ = some (.int .i64 o) := cell_of_block hA
    have d3 : w3.cell? ⟨g1, 3, none⟩ = some (.int .i64 0) := cell_of_block hA
    have d4 : w3.cell? ⟨g1, 4, none⟩ = some (.int .i64 0) := cell_of_block hA
    clear hA hb hg1 HL2
    refine (status_calls HL3.out t).mono ?_
    rintro e w4 ⟨rfl, hb⟩
    have HB4 := Lib.hid (HB3.out.trans (hb.mono HB3.out.size))
    have d0 := keep hb d0
    have d1 := keep hb d1
    have d2 := keep hb d2
    have d3 := keep hb d3
    have d4 := keep hb d4
    clear hb HL3
    revert Hm
    generalize statB S t = s
    intro Hm
    by_cases hs : s = 2
    · have hs2 : (s == 2) = true := by simpa using hs
      clear hs
      go_wp2_with fail
      refine (right_calls t k o 0 0 _).mono ?_
      rintro e w5 ⟨rfl, hb⟩
      have HB5 := Lib.hid (HB4.out.trans (hb.mono HB4.out.size))
      have Hm2 := Lib.hid (Hm.out s _ rfl rfl)
      clear hb
      go_wp2
      go_ret
      exact ⟨by rw [Hm2.out, hs2]; rfl, HB5.out⟩
    · have hs2 : (s == 2) = false := by simpa using hs
      have Hm2 := Lib.hid (Hm.out s _ rfl rfl)
      clear hs
      go_wp2
      go_ret
      exact ⟨by rw [Hm2.out, hs2]; rfl, HB4.out⟩

/-- What both Waiting hand back. -/
noncomputable def waitRes (n : Nat) (l : List Ev) (t k o : Int) : List Int × Int := if wrongS n l ≠ 0 then ([], wrongS n l) else if mayB (takes log0 l) t k o then (natsI (racesP (rD l) (candB l n t k o) n), 0) else ([], 1)
theorem waitRes_bad {n : Nat} {l : List Ev} {t k o : Int} (h : wrongS n l ≠ 0) : waitRes n l t k o = ([], wrongS n l) := if_pos h
theorem waitRes_yes {n : Nat} {l : List Ev} {t k o : Int} {S : LogS} (h : wrongS n l = 0) (hS : ofS l = (S, 0, 0)) (hm : mayB S t k o = true) : waitRes n l t k o = (natsI (racesP (rD l) (candB l n t k o) n), 0) := by
  have := ofS_takes hS
  subst this
  unfold waitRes; rw [if_neg (by rw [h]; simp), if_pos hm]
theorem waitRes_no {n : Nat} {l : List Ev} {t k o : Int} {S : LogS} (h : wrongS n l = 0) (hS : ofS l = (S, 0, 0)) (hm : mayB S t k o = false) : waitRes n l t k o = ([], 1) := by
  have := ofS_takes hS
  subst this
  unfold waitRes; rw [if_neg (by rw [h]; simp), if_neg (by rw [hm]; simp)]

set_option maxRecDepth 20000 in
set_option maxHeartbeats 4000000 in
theorem waiting_calls {w : World} {a0 : Option Addr} {n c : Nat} {l : List Ev} (h : IsEvs w a0 n c l) (t k o : Int) :
    Calls Try.prog 71 #[.slice a0 n c, .int .i64 t, .agg #[.int .i64 k, .int .i64 o]] w (RacePost w (waitRes n l t k o)) := by
  have hnm : n ≤ 9223372036854775807 := by have := h.le; have := h.cap; unfold maxLen at *; omega
  have Hev := Lib.hid h
  clear h
  go_enter Try.func71, Try.ntmps71
  go_wp2_with fail
  have hN := one_new w #[.int .i64 k, .int .i64 o] 50
  revert hN
  generalize w.alloc (.cells #[.int .i64 k, .int .i64 o] 50) = w0
  rintro ⟨hA, hb1⟩
  obtain ⟨g0, hg0⟩ : ∃ g0, g0 = w.heap.size := ⟨_, rfl⟩
  rw [← hg0] at hA ⊢
  have c0 : w0.cell? ⟨g0, 0, none⟩ = some (.int .i64 k) := cell_of_block hA
  have c1 : w0.cell? ⟨g0, 1, none⟩ = some (.int .i64 o) := cell_of_block hA
  have HB0 := Lib.hid hb1
  clear hA hg0 hb1
  refine (order_calls (Hev.out.below HB0.out)).mono ?_
  rintro e w1 ⟨hb1, ⟨hz, rfl⟩ | ⟨hz, hg, b, v, rfl, hO⟩⟩
  · have HB1 := Lib.hid (HB0.out.trans (hb1.mono HB0.out.size))
    have hz' : (wrongS n l != 0) = true := by simpa [bne] using hz
    have Hq : Hid (RacePost w (waitRes n l t k o) (.returned (.tuple #[.slice none 0 0, .int .i64 (wrongS n l)])) w1) := by rw [Hid, waitRes_bad hz]; exact RacePost.none HB1.out
    clear hb1 hz
    generalize wrongS n l = z at *
    go_wp2
    go_returns
    exact Hq.out
  have HB1 := Lib.hid (HB0.out.trans (hb1.mono HB0.out.size))
  have HT := Lib.hid (show TgAt w1 w0.heap.size b v l n a0 c from ⟨Hev.out.below HB1.out, hO, hg, hz⟩)
  have c0 := keep hb1 c0
  have c1 := keep hb1 c1
  have hn100 : n ≤ 100 := hg.le
  obtain ⟨S, hS⟩ := wrong_ofS hz
  have HS := Lib.hid hS
  have Hz := Lib.hid hz
  clear hb1 hg hO hz hS
  go_wp2_with fail
  refine (may_calls HT.out.evs hn100 HS.out t k o).mono ?_
  rintro e w2 ⟨rfl, hb⟩
  have HB2 := Lib.hid (HB1.out.trans (hb.mono HB1.out.size))
  have HT2 := Lib.hid (HT.out.below hb)
  have c0 := keep hb c0
  have c1 := keep hb c1
  clear hb HT
  rcases Bool.eq_false_or_eq_true (mayB S t k o) with hm | hm
  · have Hr := Lib.hid (waitRes_yes Hz.out HS.out hm)
    rw [hm]
    clear hm
    go_wp2_with fail
    refine (races_calls HT2.out (Nat.le_refl n) t k o).mono ?_
    rintro e w3 ⟨u, rfl, hown, hb⟩
    have Hres : Hid (RacePost w (waitRes n l t k o) (.returned (.tuple #[u, .int .i64 0])) w3) := by
      rw [Hid, Hr.out]
      exact ⟨u, rfl, ⟨ownsRow_base hown.own HB2.out.size⟩, HB2.out.trans (hb.mono HB2.out.size)⟩
    clear hown hb
    go_wp2
    go_returns
    exact Hres.out
  · have Hq : Hid (RacePost w (waitRes n l t k o) (.returned (.tuple #[.slice none 0 0, .int .i64 1])) w2) := by rw [Hid, waitRes_no Hz.out HS.out hm]; exact RacePost.none HB2.out
    rw [hm]
    clear hm
    go_wp2
    go_returns
    exact Hq.out

set_option maxRecDepth 20000 in
set_option maxHeartbeats 4000000 in
theorem rwaiting_calls {w : World} {a0 : Option Addr} {n c : Nat} {l : List Ev} (h : IsEvs w a0 n c l) (t k o : Int) :
    Calls Try.prog 72 #[.slice a0 n c, .int .i64 t, .agg #[.int .i64 k, .int .i64 o]] w (RacePost w (waitRes n l t k o)) := by
  have hnm : n ≤ 9223372036854775807 := by have := h.le; have := h.cap; unfold maxLen at *; omega
  have Hev := Lib.hid h
  clear h
  go_enter Try.func72, Try.ntmps72
  go_wp2_with fail
  have hN := one_new w #[.int .i64 k, .int .i64 o] 50
  revert hN
  generalize w.alloc (.cells #[.int .i64 k, .int .i64 o] 50) = w0
  rintro ⟨hA, hb1⟩
  obtain ⟨g0, hg0⟩ : ∃ g0, g0 = w.heap.size := ⟨_, rfl⟩
  rw [← hg0] at hA ⊢
  have c0 : w0.cell? ⟨g0, 0, none⟩ = some (.int .i64 k) := cell_of_block hA
  have c1 : w0.cell? ⟨g0, 1, none⟩ = some (.int .i64 o) := cell_of_block hA
  have HB0 := Lib.hid hb1
  clear hA hg0 hb1
  refine (rord_calls (Hev.out.below HB0.out)).mono ?_
  rintro e w1 ⟨hb1, ⟨hz, rfl⟩ | ⟨hz, v1, v2, rfl, hM1, hM2⟩⟩
  · have HB1 := Lib.hid (HB0.out.trans (hb1.mono HB0.out.size))
    have hz' : (wrongS n l != 0) = true := by simpa [bne] using hz
    have Hq : Hid (∀ x, RacePost w (waitRes n l t k o) (.returned (.tuple #[.slice none 0 0, .int .i64 (wrongS n l)])) (w1.alloc x)) := fun x => by rw [waitRes_bad hz]; exact RacePost.none (HB1.out.alloc HB1.out.size _)
    clear hb1 hz
    generalize wrongS n l = z at *
    go_wp2
    go_returns
    exact Hq.out _
  have hn100 : n ≤ 100 := wrong_le hz
  have Hz := Lib.hid hz
  have HG : Hid (GoodL n l) := by obtain ⟨S, hS⟩ := wrong_ofS hz; exact good_of Hev.out hn100 hS
  obtain ⟨sa, sp, sq, rfl⟩ := hM1.slice
  obtain ⟨ta, tp, tq, rfl⟩ := hM2.slice
  have hal : Below w1.heap.size w1 (w1.alloc (.cells #[.slice a0 n c, .slice sa sp sq, .slice ta tp tq] 93)) := (Below.refl _ w1).alloc (Nat.le_refl _) _
  have hB01 := HB0.out.trans (hb1.mono HB0.out.size)
  have hR3 : ROrdAt (w1.alloc (.cells #[.slice a0 n c, .slice sa sp sq, .slice ta tp tq] 93)) w1.heap.size a0 n c (.slice sa sp sq) (.slice ta tp tq) l :=
    ⟨(MapKept.heap_alloc w1 _).1, ⟨_, hM1.below hal⟩, ⟨_, hM2.below hal⟩, (Hev.out.below hB01).below hal⟩
  have c0 := keep (hb1.trans (hal.mono hb1.size)) c0
  have c1 := keep (hb1.trans (hal.mono hb1.size)) c1
  have HX := Lib.hid (And.intro hR3 (hB01.trans (hal.mono hB01.size)))
  obtain ⟨S, hS⟩ := wrong_ofS hz
  have HS := Lib.hid hS
  clear hb1 hal hR3 hM1 hM2 hz hS hB01
  go_wp2_with fail
  revert HX c0 c1
  generalize w1.alloc (.cells #[.slice a0 n c, .slice sa sp sq, .slice ta tp tq] 93) = w2
  intro c0 c1 HX
  have HR := Lib.hid HX.out.1
  have HB2 := Lib.hid HX.out.2
  clear HX
  obtain ⟨rb, hrb⟩ : ∃ rb, rb = w1.heap.size := ⟨_, rfl⟩
  rw [← hrb] at HR ⊢
  clear hrb
  refine (rof_ok (Hev.out.below HB2.out) HS.out).mono ?_
  rintro e w3 ⟨rfl, hb⟩
  have HB3 := Lib.hid (HB2.out.trans (hb.mono HB2.out.size))
  have HR3 := Lib.hid (HR.out.below hb)
  have c0 := keep hb c0
  have c1 := keep hb c1
  clear hb HR
  have hrow := row_made w3 #[.int .i64 0, .int .i64 0, .int .i64 0, .int .i64 0, .int .i64 0, .int .i64 0, .int .i64 0, .int .i64 0, .int .i64 0, .int .i64 0, .int .i64 0, .int .i64 0, .int .i64 0, .int .i64 0, .int .i64 0, .int .i64 0] (stArr S.st S.ow) 80
  have e0 := keep hrow.2 c0
  have e1 := keep hrow.2 c1
  go_wp2_with (refine wpList_store_row rfl 80 (.tmp 10) (.tmp 26) rfl w3.heap.size (stArr S.st S.ow) rfl rfl 80 #[.int .i64 0, .int .i64 0, .int .i64 0, .int .i64 0, .int .i64 0, .int .i64 0, .int .i64 0, .int .i64 0, .int .i64 0, .int .i64 0, .int .i64 0, .int .i64 0, .int .i64 0, .int .i64 0, .int .i64 0, .int .i64 0] (MapKept.heap_alloc w3 _).1 infoState rfl (stArr_one _ _) ?_)
  clear e0 e1
  revert hrow
  generalize ((w3.alloc (.cells #[.int .i64 0, .int .i64 0, .int .i64 0, .int .i64 0, .int .i64 0, .int .i64 0, .int .i64 0, .int .i64 0, .int .i64 0, .int .i64 0, .int .i64 0, .int .i64 0, .int .i64 0, .int .i64 0, .int .i64 0, .int .i64 0] 80)).setRow w3.heap.size (stArr S.st S.ow)) = w4
  rintro ⟨hT4, hb⟩
  have HT4 : Hid (StateAt w4 w3.heap.size S) := hT4
  have HB4 := Lib.hid (HB3.out.trans (hb.mono HB3.out.size))
  have HR4 := Lib.hid (HR3.out.below hb)
  have c0 := keep hb c0
  have c1 := keep hb c1
  obtain ⟨bs, hbs⟩ : ∃ bs, bs = w3.heap.size := ⟨_, rfl⟩
  rw [← hbs] at HT4 ⊢
  clear hb hT4 hbs HR3
  
  go_wp2_with fail
  refine (fits_calls t k o _).mono ?_
  rintro e w5 ⟨rfl, hb⟩
  have HB5 := Lib.hid (HB4.out.trans (hb.mono HB4.out.size))
  have HR5 := Lib.hid (HR4.out.below hb)
  have HT5 := Lib.hid (HT4.out.below hb)
  have c0 := keep hb c0
  have c1 := keep hb c1
  clear hb HR4 HT4
  rcases Bool.eq_false_or_eq_true (fitsB t k o) with hf | hf
  · have hin : inB t = true := right_in hf
    obtain ⟨ht0, ht8⟩ := inB_iff.1 hin
    obtain ⟨tn, rfl⟩ := Int.eq_ofNat_of_zero_le ht0
    have ht8' : tn < 8 := by omega
    have s0 := HT5.out.cst ht8'
    have Hst : Hid (S.st tn = S.st tn) := rfl
    rw [hf]
    revert s0 Hst
    generalize hs : S.st tn = s
    intro s0 Hst
    by_cases hs2 : s = 2
    · subst hs2
      have Hr := Lib.hid (waitRes_yes (t := (tn : Int)) (k := k) (o := o) Hz.out HS.out (by rw [mayB_fits, hf]; simp [hs]))
      clear hf hin hs Hst
      go_wp2_with fail
      refine (rraces_calls HR5.out HG.out (Nat.le_refl n) (tn : Int) k o).mono ?_
      rintro e w6 ⟨u, rfl, hown, hb⟩
      have Hres : Hid (RacePost w (waitRes n l (tn : Int) k o) (.returned (.tuple #[u, .int .i64 0])) w6) := by
        rw [Hid, Hr.out]
        exact ⟨u, rfl, ⟨ownsRow_base hown.own HB5.out.size⟩, HB5.out.trans (hb.mono HB5.out.size)⟩
      clear hown hb
      go_wp2
      go_returns
      exact Hres.out
    · have hs3 : (s != 2) = true := by simpa [bne] using hs2
      have Hq : Hid (RacePost w (waitRes n l (tn : Int) k o) (.returned (.tuple #[.slice none 0 0, .int .i64 1])) w5) := by
        rw [Hid, waitRes_no Hz.out HS.out (by rw [mayB_fits, hf]; simpa [hs] using hs2)]; exact RacePost.none HB5.out
      clear hf hin hs Hst hs2
      go_wp2
      go_returns
      exact Hq.out
  · have Hq : Hid (RacePost w (waitRes n l t k o) (.returned (.tuple #[.slice none 0 0, .int .i64 1])) w5) := by
      rw [Hid, waitRes_no Hz.out HS.out (by rw [mayB_fits, hf]; rfl)]; exact RacePost.none HB5.out
    rw [hf]
    clear hf
    go_wp2
    go_returns
    exact Hq.out

theorem waitRes_fit (n : Nat) (l : List Ev) (t k o : Int) : ∀ x ∈ (waitRes n l t k o).1, Fit x := by
  unfold waitRes
  split
  · intro x hx; cases hx
  · rename_i hz
    have hz : wrongS n l = 0 := by simpa using hz
    split
    · have := wrong_le hz
      exact nats_fit (n := n) (fun x hx => by unfold racesP at hx; exact List.mem_range.1 (List.mem_filter.1 hx).1) (by omega)
    · intro x hx; cases hx

end Go.Proofs.Ytjhlehepnhbbaaa
