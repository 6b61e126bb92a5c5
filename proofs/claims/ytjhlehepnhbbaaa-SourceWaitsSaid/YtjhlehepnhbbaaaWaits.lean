/-
  SourceWaits: what is to be tried for any action of any thread behind all events is what the document says; for every input.
-/
import Derived.Test.YtjhlehepnhbbaaaNeeds3
import Derived.Test.YtjhlehepnhbbaaaRaceWai
set_option linter.unusedSimpArgs false
set_option linter.unusedVariables false
namespace Go.Proofs.Ytjhlehepnhbbaaa
open Go.ChangeShapes Go.WideShapes Go.ChangeAt Go.RowKit Go.Deep

noncomputable def wtOk (n : Nat) (l : List Ev) (t k o : Int) : Bool := decide (wrongS n l = 0) && mayB (takes log0 l) t k o
noncomputable def wtErr (n : Nat) (l : List Ev) : Int := if wrongS n l ≠ 0 then wrongS n l else 1
noncomputable def wtR (n : Nat) (l : List Ev) (t k o : Int) : List Nat := racesP (rD l) (candB l n t k o) n
noncomputable def wtF (n : Nat) (l : List Ev) (t k o : Int) : Nat → Nat := needF l ⟨t, k, o, 0, 0⟩ n (wtR n l t k o)
theorem wt_cases (n : Nat) (l : List Ev) (t k o : Int) : (wtOk n l t k o = false ∧ waitRes n l t k o = ([], wtErr n l) ∧ wtErr n l ≠ 0) ∨ (wtOk n l t k o = true ∧ wrongS n l = 0 ∧ waitRes n l t k o = (natsI (wtR n l t k o), 0)) := by
  by_cases hz : wrongS n l = 0
  · obtain ⟨S, hS⟩ := wrong_ofS hz
    have e := ofS_takes hS
    subst e
    have he : wtErr n l = 1 := if_neg (by rw [hz]; simp)
    cases hm : mayB (takes log0 l) t k o
    · exact .inl ⟨by unfold wtOk; rw [decide_eq_true hz, hm]; rfl, by rw [he]; exact waitRes_no hz hS hm, by rw [he]; decide⟩
    · exact .inr ⟨by unfold wtOk; rw [decide_eq_true hz, hm]; rfl, hz, waitRes_yes hz hS hm⟩
  · have he : wtErr n l = wrongS n l := if_pos hz
    exact .inl ⟨by unfold wtOk; rw [decide_eq_false hz]; rfl, by rw [he]; exact waitRes_bad hz, by rw [he]; exact hz⟩
theorem wtR_lt {n : Nat} {l : List Ev} {t k o : Int} : ∀ q ∈ wtR n l t k o, q < n := fun q hq => by
  unfold wtR racesP at hq
  exact List.mem_range.1 (List.mem_filter.1 hq).1
theorem wtR_len (n : Nat) (l : List Ev) (t k o : Int) : (wtR n l t k o).length ≤ n := by
  unfold wtR racesP
  have := List.length_filter_le (maxP (rD l) (candB l n t k o) n) (List.range n)
  rw [List.length_range] at this; exact this

set_option maxRecDepth 20000 in
set_option maxHeartbeats 8000000 in
theorem pwaits_calls {w : World} {a0 : Option Addr} {n c : Nat} {l : List Ev} (h : IsEvs w a0 n c l) {t k o : Int} (hw : (⟨t, k, o, 0, 0⟩ : Ev).wf) :
    Calls Try.prog 38 #[.slice a0 n c, .int .i64 t, .agg #[.int .i64 k, .int .i64 o]] w (NdPost 69 w n (wtOk n l t k o) (wtF n l t k o) (wtErr n l)) := by
  have Hev := Lib.hid h
  have Hw := Lib.hid hw
  clear h hw
  go_enter Try.func38, Try.ntmps38
  go_wp2_with fail
  have hN := one_new w #[.int .i64 k, .int .i64 o] 50
  revert hN
  generalize w.alloc (.cells #[.int .i64 k, .int .i64 o] 50) = w0
  rintro ⟨hA, hb1⟩
  obtain ⟨g0, hg0⟩ : ∃ g0, g0 = w.heap.size := ⟨_, rfl⟩
  rw [← hg0] at hA ⊢
  have c0 : w0.cell? ⟨g0, 0, none⟩ = some (.int .i64 k) := cell_of_block hA
  have c1 : w0.cell? ⟨g0, 1, none⟩ = some (.int .i64 o) := cell_of_block hA
  have HB0 := Lib.hid hb1
  clear hA hg0 hb1
  refine (waiting_calls (Hev.out.below HB0.out) t k o).mono ?_
  rintro e w1 ⟨v, rfl, hown, hb⟩
  have HB1 := Lib.hid (HB0.out.trans (hb.mono HB0.out.size))
  have c0 := keep hb c0
  have c1 := keep hb c1
  clear hb
  rcases wt_cases n l t k o with ⟨hok, hr, hz⟩ | ⟨hok, hz, hr⟩
  · rw [hr] at hown ⊢
    simp only at hown ⊢
    have hz' : (wtErr n l != 0) = true := by simpa [bne] using hz
    have Hq : Hid (NdPost 69 w n (wtOk n l t k o) (wtF n l t k o) (wtErr n l) (.returned (.tuple #[.slice none 0 0, .int .i64 (wtErr n l)])) w1) := NdPost.no hok HB1.out
    clear hown hok hr hz
    generalize wtErr n l = z at *
    go_wp2
    go_returns
    exact Hq.out
  · have hn100 : n ≤ 100 := wrong_le16 hz
    rw [hr] at hown ⊢
    simp only at hown ⊢
    obtain ⟨sa, sc, hu, hsc, _⟩ := hown.int_at
    rw [natsI_len] at hu hsc
    subst hu
    have HAt : Hid (AtR w1 sa (wtR n l t k o)) := OwnL.atR hown
    have HRn : Hid (∀ q ∈ wtR n l t k o, q < n) := wtR_lt
    have hRl : (wtR n l t k o).length ≤ 100 := Nat.le_trans (wtR_len n l t k o) hn100
    have HF : Hid (wtF n l t k o = needF l ⟨t, k, o, 0, 0⟩ n (wtR n l t k o)) := rfl
    have Hz := Lib.hid hz
    have Hok := Lib.hid hok
    clear hown hok hr hz
    revert HAt HRn hRl hsc HF
    generalize wtR n l t k o = R
    intro hsc HAt HRn hRl HF
    go_wp2_with fail
    refine (needs_calls (x := ⟨t, k, o, 0, 0⟩) (Hev.out.below HB1.out) Hz.out (Nat.le_refl n) HAt.out hsc HRn.out hRl Hw.out).mono ?_
    rintro e w3 ⟨g, rfl, hg, hb⟩
    have Hq : Hid (NdPost 69 w n (wtOk n l t k o) (wtF n l t k o) (wtErr n l) (.returned (.tuple #[.slice (some ⟨g, 0, none⟩) n n, .int .i64 0])) w3) := by
      rw [Hid, HF.out]
      exact ⟨HB1.out.trans (hb.mono HB1.out.size), .inr ⟨Hok.out, g, rfl, hg⟩⟩
    clear hg hb
    go_wp2
    go_returns
    exact Hq.out

set_option maxRecDepth 20000 in
set_option maxHeartbeats 16000000 in
theorem rwaits_calls {w : World} {a0 : Option Addr} {n c : Nat} {l : List Ev} (h : IsEvs w a0 n c l) {t k o : Int} (hw : (⟨t, k, o, 0, 0⟩ : Ev).wf) :
    Calls Try.prog 39 #[.slice a0 n c, .int .i64 t, .agg #[.int .i64 k, .int .i64 o]] w (NdPost 68 w n (wtOk n l t k o) (wtF n l t k o) (wtErr n l)) := by
  have Hev := Lib.hid h
  have Hw := Lib.hid hw
  have Hwf := Lib.hid h.wf
  have Hl := Lib.hid h.len
  clear h hw
  go_enter Try.func39, Try.ntmps39
  go_wp2_with fail
  have hN := one_new w #[.int .i64 k, .int .i64 o] 50
  revert hN
  generalize w.alloc (.cells #[.int .i64 k, .int .i64 o] 50) = w0
  rintro ⟨hA, hb1⟩
  obtain ⟨g0, hg0⟩ : ∃ g0, g0 = w.heap.size := ⟨_, rfl⟩
  rw [← hg0] at hA ⊢
  have c0 : w0.cell? ⟨g0, 0, none⟩ = some (.int .i64 k) := cell_of_block hA
  have c1 : w0.cell? ⟨g0, 1, none⟩ = some (.int .i64 o) := cell_of_block hA
  have HB0 := Lib.hid hb1
  clear hA hg0 hb1
  refine (rwaiting_calls (Hev.out.below HB0.out) t k o).mono ?_
  rintro e w1 ⟨v, rfl, hown, hb⟩
  have HB1 := Lib.hid (HB0.out.trans (hb.mono HB0.out.size))
  have c0 := keep hb c0
  have c1 := keep hb c1
  clear hb
  rcases wt_cases n l t k o with ⟨hok, hr, hz⟩ | ⟨hok, hz, hr⟩
  · rw [hr] at hown ⊢
    simp only at hown ⊢
    have hz' : (wtErr n l != 0) = true := by simpa [bne] using hz
    have Hq : Hid (NdPost 68 w n (wtOk n l t k o) (wtF n l t k o) (wtErr n l) (.returned (.tuple #[.slice none 0 0, .int .i64 (wtErr n l)])) w1) := NdPost.no hok HB1.out
    clear hown hok hr hz
    generalize wtErr n l = z at *
    go_wp2
    go_returns
    exact Hq.out
  have hn100 : n ≤ 100 := wrong_le16 hz
  rw [hr] at hown ⊢
  simp only at hown ⊢
  obtain ⟨ga, gc, hu, hgc, _⟩ := hown.int_at
  rw [natsI_len] at hu hgc
  subst hu
  have HAt1 : Hid (AtR w1 ga (wtR n l t k o)) := OwnL.atR hown
  have HRn : Hid (∀ q ∈ wtR n l t k o, q < n) := wtR_lt
  have hRl : (wtR n l t k o).length ≤ 100 := Nat.le_trans (wtR_len n l t k o) hn100
  have HF2 : Hid (wtF n l t k o = needF l ⟨t, k, o, 0, 0⟩ n (wtR n l t k o)) := rfl
  have Hz := Lib.hid hz
  have Hok := Lib.hid hok
  clear hown hok hr hz
  revert HAt1 HRn hRl hgc HF2
  generalize wtR n l t k o = R
  intro hgc HAt1 HRn hRl HF2
  go_wp2_with fail
  refine (rord_calls (Hev.out.below HB1.out)).mono ?_
  rintro e w2 ⟨hb1, ⟨hz, rfl⟩ | ⟨hz, v1, v2, rfl, hM1, hM2⟩⟩
  · exact absurd Hz.out hz
  obtain ⟨sa, sp, sq, rfl⟩ := hM1.slice
  obtain ⟨ta, tp, tq, rfl⟩ := hM2.slice
  have hal : Below w2.heap.size w2 (w2.alloc (.cells #[.slice a0 n c, .slice sa sp sq, .slice ta tp tq] 93)) := (Below.refl _ w2).alloc (Nat.le_refl _) _
  have hb3 := hb1.trans (hal.mono hb1.size)
  have hR3 : ROrdAt (w2.alloc (.cells #[.slice a0 n c, .slice sa sp sq, .slice ta tp tq] 93)) w2.heap.size a0 n c (.slice sa sp sq) (.slice ta tp tq) l :=
    ⟨(MapKept.heap_alloc w2 _).1, ⟨_, hM1.below hal⟩, ⟨_, hM2.below hal⟩, ((Hev.out.below HB1.out).below hb3)⟩
  have c0 := keep hb3 c0
  have c1 := keep hb3 c1
  have HY := Lib.hid (And.intro hR3 (And.intro (HB1.out.trans (hb3.mono HB1.out.size)) (And.intro (HAt1.out.below hb3) (And.intro c0 c1))))
  have s1 : (w2.alloc (.cells #[.slice a0 n c, .slice sa sp sq, .slice ta tp tq] 93)).heap.size = w2.heap.size + 1 := by simp
  have Hs1 := Lib.hid s1
  clear c0 c1 hb1 hal hb3 hR3 hM1 hM2 hz s1 HAt1
  go_wp2_with (refine wpList_makeU Try.underlying59 infoUint rfl (.tmp 32) (.tmp 32) rfl n (by omega) rfl rfl ?_)
  revert HY Hs1
  generalize w2.alloc (.cells #[.slice a0 n c, .slice sa sp sq, .slice ta tp tq] 93) = z3
  intro HY Hs1
  have HR3 := Lib.hid HY.out.1
  have HB3 := Lib.hid HY.out.2.1
  have HAt := Lib.hid HY.out.2.2.1
  have HX := Lib.hid HY.out.2.2.2
  clear HY
  have HS : RowU 68 n (needF l ⟨t, k, o, 0, 0⟩ n (R.take 0)) z3.heap.size z3 (z3.alloc (.cells (uintsA n fun _ => 0) 68)) := ⟨by rw [uintsA_congr (f := needF l ⟨t, k, o, 0, 0⟩ n (R.take 0)) (g := fun _ => 0) (fun i _ => by rw [List.take_zero, needF_nil])]; exact (MapKept.heap_alloc z3 _).1, (Below.refl _ z3).alloc (Nat.le_refl _) _⟩
  revert HS
  generalize z3.alloc (.cells (uintsA n fun _ => 0) 68) = z4
  intro HS
  obtain ⟨gl, hgl⟩ : ∃ gl, gl = w2.heap.size + 1 := ⟨_, rfl⟩
  rw [Hs1.out, ← hgl] at HS
  rw [← hgl]
  rw [← Hs1.out] at hgl
  have Hgl := Lib.hid hgl
  have HS2 := Lib.hid HS
  clear hgl HS
  go_wp2_with fail
  go_loopw [13, 14, 15] (fun y _ _ wr => ∃ m : Nat, m ≤ R.length ∧ y = .int .i64 m ∧ Hid (RowU 68 n (needF l ⟨t, k, o, 0, 0⟩ n (R.take m)) gl z3 wr)) (fun y _ _ _ => R.length - (intOf y).toNat)
  case atStart => exact ⟨0, Nat.zero_le _, by go_num, HS2.out⟩
  case round =>
    clear HS2
    obtain ⟨m, hm, rfl, HS⟩ := hrel
    have HBr := Lib.hid (HS.out.base Hgl.out)
    by_cases hmR : m < R.length
    · obtain ⟨q, hq⟩ : ∃ q, R[m]? = some q := ⟨_, List.getElem?_eq_getElem hmR⟩
      have hqN : q < n := HRn.out q (List.mem_of_getElem? hq)
      obtain ⟨rg, rfl, cq⟩ := (HAt.out.below HBr.out) m q hq
      have Hq := Lib.hid hq
      clear hq
      go_wp2_with fail
      refine (rrest_calls (HR3.out.below HBr.out) hn100 (Nat.le_refl n) hqN).mono ?_
      rintro e y1 ⟨ur, rfl, hown, hb⟩
      have HS1 := Lib.hid (HS.out.go hb)
      obtain ⟨da, dc, hu, hdc, _⟩ := hown.int_at
      rw [natsI_len] at hu hdc
      subst hu
      have HDa : Hid (AtR y1 da (restP (rD l) q n)) := OwnL.atR hown
      have hDl : (restP (rD l) q n).length ≤ 100 := Nat.le_trans (restP_len (rD l) q n) (by omega)
      have HDn : Hid (∀ p ∈ restP (rD l) q n, p < n) := fun p hp => restP_lt hp
      have Hne : Hid (needX l ⟨t, k, o, 0, 0⟩ n q = evsAt l (restP (rD l) q n) ++ [⟨t, k, o, 0, 0⟩]) := rfl
      have Hput : Hid (∀ u, (if u = q then needN l ⟨t, k, o, 0, 0⟩ n q else needF l ⟨t, k, o, 0, 0⟩ n (R.take m) u) = needF l ⟨t, k, o, 0, 0⟩ n (R.take (m + 1)) u) := fun u => needF_put Hq.out u
      clear hb hown HS HBr
      have HBr := Lib.hid (HS1.out.base Hgl.out)
      go_wp2_with fail
      refine (revents_calls (Hev.out.below (HB3.out.trans (HBr.out.mono HB3.out.size))) HDa.out hdc HDn.out (by omega) hn100).mono ?_
      rintro e y2 ⟨ux, rfl, hown, hb⟩
      have HS2 := Lib.hid (HS1.out.go hb)
      have HB2' := Lib.hid (HS2.out.base Hgl.out)
      have HO2 := Lib.hid hown
      have hX := keep HB2'.out HX.out.1
      have hX1 := keep HB2'.out HX.out.2
      have hsz : y1.heap.size ≤ y2.heap.size := hb.size
      have hgy : gl < y1.heap.size := HS1.out.lt
      have Hgy := Lib.hid hgy
      have Hlen : Hid ((evsAt l (restP (rD l) q n)).length < 1000000) := by rw [Hid, evsAt_len]; omega
      have HDw : Hid (∀ z ∈ needX l ⟨t, k, o, 0, 0⟩ n q, z.wf) := fun z hz => by
        rw [Hne.out] at hz
        rcases List.mem_append.1 hz with hz | hz
        · exact evsAt_wf Hwf.out (fun j hj => by rw [Hl.out]; exact HDn.out j hj) z hz
        · rw [List.mem_singleton.1 hz]; exact Hw.out
      clear hown hb HS1 HBr HDa hgy
      go_wp2_with (at_builtin; go_loud (refine wpList_push eltEv rfl (.tmp 50) (.tmp 57) rfl ⟨t, k, o, 0, 0⟩ rfl rfl rfl HO2.out hsz Hlen.out ?_); intro v' wv hown hw hv; (have HN := Lib.hid (And.intro (HS2.out.wrote hw (fun z hz => Nat.lt_of_lt_of_le Hgy.out (HO2.out.lt hz).1)) (show OwnL eltEv wv y1.heap.size v' (needX l ⟨t, k, o, 0, 0⟩ n q) by rw [Hne.out]; exact hown))); clear hown hw hv)
      obtain ⟨xa, xc, rfl, hE⟩ := HN.out.2.evs HDw.out
      have HE := Lib.hid hE
      obtain ⟨rg', he, cq⟩ := (HAt.out.below (HN.out.1.base Hgl.out)) m q Hq.out
      cases he
      have hqn : q < n := hqN
      have hst : ∀ W, Below wv.heap.size wv W → Calls Try.prog 70 #[.slice xa (needX l ⟨t, k, o, 0, 0⟩ n q).length xc] W fun x' w' => x' = .returned (.int .u64 ((needN l ⟨t, k, o, 0, 0⟩ n q : Nat) : Int)) ∧ Below W.heap.size W w' := fun W hW => rinit_calls (HE.out.below hW)
      have Hst := Lib.hid hst
      have HN1 := Lib.hid HN.out.1
      clear hE hst HN HO2 hX hX1 HS2 HB2' HE
      revert Hst Hput
      generalize needN l ⟨t, k, o, 0, 0⟩ n q = V
      intro Hput Hst
      go_wp2_with fail
      refine wp_ext_draw 8 mixed (by kernel_rfl) ?_
      simp only [List.take_succ_cons, List.take_zero, List.drop_succ_cons, List.drop_zero]
      repeat ((first | ((apply TextRun.go rfl rfl rfl); (focus (intro w1 hS K hK; have hc := bcell hS; have hs := blt hS; have cq := keep hS cq; go_wp2_with ((with_reducible refine (Hst.out _ hS).mono ?_); rintro x' w4 ⟨rfl, hb⟩); first | done | exact hS | exact hS.trans (hb.mono hS.size)))) | (refine TextRun.skip rfl ?_) | ((refine TextRun.wantedT rfl rfl rfl ?_); (apply Exists.intro); (apply And.intro); (focus (intro w1 hS K hK; have hc := bcell hS; have hs := blt hS; have cq := keep hS cq; go_wp2_with ((with_reducible refine (Hst.out _ hS).mono ?_); rintro x' w4 ⟨rfl, hb⟩); first | done | exact hS | exact hS.trans (hb.mono hS.size))))); (simp only [Act.put, List.setIfInBounds_toArray, List.set_cons_zero, List.set_cons_succ]))
      refine TextRun.done ?_
      intro w6 hb
      have HSz := Lib.hid (HN1.out.go hb)
      obtain ⟨gc, gf⟩ := HSz.out.get hqn
      have HF : Hid (RowU 68 n (needF l ⟨t, k, o, 0, 0⟩ n (R.take (m + 1))) gl z3 (w6.setCell ⟨gl, q, none⟩ (.int .u64 (V : Int)))) := (HSz.out.put q V).of (fun k _ => Hput.out k)
      clear hb HSz HN1 cq Hst
      go_wp2
      go_roundw
      case rel => exact ⟨m + 1, hmR, by go_num, HF.out⟩
      case measure => exact meas hmR
    · have hmR : R.length = m := Nat.le_antisymm (Nat.le_of_not_lt hmR) hm
      subst hmR
      have Hq : Hid (NdPost 68 w n (wtOk n l t k o) (wtF n l t k o) (wtErr n l) (.returned (.tuple #[.slice (some ⟨gl, 0, none⟩) n n, .int .i64 0])) wr) := by
        have := HS.out.row
        rw [List.take_length] at this
        rw [Hid, HF2.out]
        exact ⟨HB3.out.trans (HBr.out.mono HB3.out.size), .inr ⟨Hok.out, gl, rfl, this⟩⟩
      clear HS HBr
      go_wp2
      go_returns
      exact Hq.out
set_option maxRecDepth 20000 in
set_option maxHeartbeats 4000000 in
theorem sourceWaits_law {w : World} {a0 : Option Addr} {n c : Nat} {l : List Ev} (h : IsEvs w a0 n c l) {t : Int} (ht : Fit t) {a : Ac} (ha : a.wf) :
    Calls Try.prog 12 #[.slice a0 n c, .int .i64 t, .agg #[.int .i64 a.k, .int .i64 a.o]] w fun e w' => e = .returned (.bool true) ∧ Below w.heap.size w w' := by
  obtain ⟨k, o⟩ := a
  have h0 : Fit 0 := Fit.of (by decide) (by decide)
  have hw : (⟨t, k, o, 0, 0⟩ : Ev).wf := ⟨ht, ha.1, ha.2, h0, h0⟩
  have Hw := Lib.hid hw
  have Hev := Lib.hid h
  clear h hw ha ht h0
  simp only
  go_enter Try.func12, Try.ntmps12
  go_wp2_with fail
  have hN := one_new w #[.int .i64 k, .int .i64 o] 50
  revert hN
  generalize w.alloc (.cells #[.int .i64 k, .int .i64 o] 50) = w0
  rintro ⟨hA, hb1⟩
  obtain ⟨g0, hg0⟩ : ∃ g0, g0 = w.heap.size := ⟨_, rfl⟩
  rw [← hg0] at hA ⊢
  have c0 : w0.cell? ⟨g0, 0, none⟩ = some (.int .i64 k) := cell_of_block hA
  have c1 : w0.cell? ⟨g0, 1, none⟩ = some (.int .i64 o) := cell_of_block hA
  have HB0 := Lib.hid hb1
  clear hA hg0 hb1
  refine (awake19_calls _).mono ?_
  rintro e w1 ⟨rfl, hb⟩
  have HB1 := Lib.hid (HB0.out.trans (hb.mono HB0.out.size))
  have c0 := keep hb c0
  have c1 := keep hb c1
  clear hb
  go_wp2_with fail
  refine (pwaits_calls (Hev.out.below HB1.out) Hw.out).mono ?_
  rintro e w2 ⟨hb, ⟨hok, rfl⟩ | ⟨hok, g1, rfl, hg1⟩⟩
  · have HB2 := Lib.hid (HB1.out.trans (hb.mono HB1.out.size))
    have c0 := keep hb c0
    have c1 := keep hb c1
    clear hb
    go_wp2_with fail
    refine (rwaits_calls (Hev.out.below HB2.out) Hw.out).mono ?_
    rintro e w3 ⟨hb, ⟨_, rfl⟩ | ⟨hok', _⟩⟩
    case inr => rw [hok] at hok'; cases hok'
    have HB3 := Lib.hid (HB2.out.trans (hb.mono HB2.out.size))
    clear hb hok
    generalize wtErr n l = z
    go_wp2_with fail
    refine (sets_nil _).mono ?_
    rintro e w4 ⟨rfl, hb⟩
    have HB4 := Lib.hid (HB3.out.trans (hb.mono HB3.out.size))
    clear hb c0 c1
    have hzz : (z == z) = true := by simp
    go_wp2
    go_ret
    exact ⟨rfl, HB4.out⟩
  · have HB2 := Lib.hid (HB1.out.trans (hb.mono HB1.out.size))
    have hn100 : n ≤ 100 := by
      unfold wtOk at hok
      rw [Bool.and_eq_true] at hok
      exact wrong_le16 (by simpa using hok.1)
    have c0 := keep hb c0
    have c1 := keep hb c1
    clear hb
    go_wp2_with fail
    refine (rwaits_calls (Hev.out.below HB2.out) Hw.out).mono ?_
    rintro e w3 ⟨hb, ⟨hok', _⟩ | ⟨_, g2, rfl, hg2⟩⟩
    case inl => rw [hok] at hok'; cases hok'
    have HB3 := Lib.hid (HB2.out.trans (hb.mono HB2.out.size))
    have HS := Lib.hid (sets_same (heap_below hg1 hb) hg2 (by omega))
    clear hb hok hg1 hg2 c0 c1
    go_wp2_with fail
    refine HS.out.mono ?_
    rintro e w4 ⟨rfl, hb⟩
    have HB4 := Lib.hid (HB3.out.trans (hb.mono HB3.out.size))
    clear hb
    go_wp2
    go_ret
    exact ⟨rfl, HB4.out⟩

set_option maxRecDepth 100000 in
theorem sourceWaits_lifted (os : Os) (started : os.Started) (H : Type) (enc : TypeId × Value → H) :
    ReturnsInHanded {} Try.checked os 12 .any (Rows.sourceWaitsSpec.pre6 enc Try.prog Try.f12 Rows.sourceWaitsRow.domain false) (Rows.sourceWaitsSpec.post enc Try.prog Try.f12 false true false false) := by
  refine returnsInHanded_of_change (C := Try.checked) own started (by kernel_rfl) Try.func12
    (ChangeSpec.witness6 (enc := enc) (C := Try.checked) false ⟨#[], #[.slice none 0 0, .int .i64 0, .agg #[.int .i64 0, .int .i64 0]], []⟩ 8 (by kernel_rfl) (by kernel_rfl) (by kernel_rfl) (by kernel_rfl)) ?_
  intro W base args ds gs before hval0 hW hcnd _
  have hval : ∀ (j : Nat) t v, Try.f12.params[j]? = some t → args[j]? = some v → Value.okWide Try.prog W .any base t v := hval0
  have hW' := hW
  obtain ⟨p, q, hA0, hV, rfl, hfz, hnd⟩ := hW
  have hA : DataW.TrodAll enc Try.prog W 0 (fun _ => true) true Try.f12.params.toList args.toList ds p := hA0
  have hA1 := hA
  rw [Try.params12] at hA hval
  obtain ⟨v0, vs0, d0, ds0, p0, q0, hargs, rfl, rfl, h0, r0⟩ := trodAll_cons hA
  obtain ⟨v1, vs1, d1, ds1, p1, q1, rfl, rfl, rfl, h1, r1⟩ := trodAll_cons r0
  obtain ⟨v2, vs2, d2, ds2, p2, q2, rfl, rfl, rfl, h2, r2⟩ := trodAll_cons r1
  obtain ⟨rfl, rfl, rfl⟩ := trodAll_nil r2
  obtain rfl : args = #[v0, v1, v2] := by cases args; simp_all
  obtain ⟨rfl, rfl⟩ := trodVars_none hV
  obtain ⟨a0, n0, c0, rfl⟩ := okWide_slice Try.underlying22 (hval 0 22 v0 rfl rfl)
  obtain ⟨x0, wf0⟩ := open_evs h0
  obtain ⟨x1, rfl, _, _, wf1⟩ := open_int Try.underlying3 (hval 1 3 v1 rfl rfl) h1
  obtain ⟨x2, rfl, wf2⟩ := open_act (hval 2 50 v2 rfl rfl) h2
  clear hA0 hval0
  refine (sourceWaits_law wf0 wf1 wf2).mono fun e W' ⟨he, bel⟩ => ?_
  subst he
  exact ⟨_, rfl, law_post (bt := 4) hW' hA1 (by kernel_rfl) rfl Try.underlying4 rfl rfl bel⟩

theorem sourceWaits_holds : Rows.SourceWaitsSaid :=
  OpenClaim.holds_of_wide 12 Try.f12 rfl rfl rfl rfl rfl rfl rfl ⟨rfl, rfl, rfl, rfl, rfl⟩ rfl rfl rfl rfl rfl (by kernel_rfl) Try.func12 (by kernel_rfl)
    (of_decide_eq_true (by kernel_rfl)) (by unfold Func.isWrapper; first | (rw [if_pos (by decide +kernel)]; kernel_rfl) | (rw [if_neg (by decide +kernel)]; exact ⟨rfl, rfl⟩))
    (fun os started H enc _ => sourceWaits_lifted os started H enc)
#print axioms sourceWaits_holds
end Go.Proofs.Ytjhlehepnhbbaaa
