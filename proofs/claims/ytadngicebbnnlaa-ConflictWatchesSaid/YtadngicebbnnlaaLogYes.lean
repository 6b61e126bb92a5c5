/-
  Add of a log: what is taken.
-/
import Derived.Test.YtadngicebbnnlaaLogAdd
import Derived.Test.YtadngicebbnnlaaReg2
set_option linter.unusedSimpArgs false
set_option linter.unusedVariables false
namespace Go.Proofs.Ytadngicebbnnlaa
open Go.ChangeShapes Go.WideShapes Go.ChangeAt Go.RowKit Go.Deep

/-- An event in a block of its own. -/
structure EvBox (w : World) (g : Nat) (t k o v x : Int) : Prop where
  e0 : w.cell? ⟨g, 0, none⟩ = some (.int .i64 t)
  e1 : w.cell? ⟨g, 1, none⟩ = some (.int .i64 k)
  e2 : w.cell? ⟨g, 2, none⟩ = some (.int .i64 o)
  e3 : w.cell? ⟨g, 3, none⟩ = some (.int .i64 v)
  e4 : w.cell? ⟨g, 4, none⟩ = some (.int .i64 x)
theorem EvBox.wrote {R : Nat → Prop} {w w' : World} {g : Nat} {t k o v x : Int} (h : EvBox w g t k o v x) (hw : Wrote R w w') (hn : ¬ R g) : EvBox w' g t k o v x := by
  have hg : g < w.heap.size := World.block_lt_of_cell? w _ h.e0
  exact ⟨(hw.cell (p := ⟨g, 0, none⟩) hg hn).trans h.e0, (hw.cell (p := ⟨g, 1, none⟩) hg hn).trans h.e1, (hw.cell (p := ⟨g, 2, none⟩) hg hn).trans h.e2, (hw.cell (p := ⟨g, 3, none⟩) hg hn).trans h.e3, (hw.cell (p := ⟨g, 4, none⟩) hg hn).trans h.e4⟩
theorem EvBox.below {w w' : World} {g : Nat} {t k o v x : Int} (h : EvBox w g t k o v x) (hb : Below w.heap.size w w') : EvBox w' g t k o v x := h.wrote (R := fun _ => False) (.of_below hb) id
theorem EvBox.all {w : World} {g : Nat} {t k o v x : Int} (h : EvBox w g t k o v x) : w.cell? ⟨g, 0, none⟩ = some (.int .i64 t) ∧ w.cell? ⟨g, 1, none⟩ = some (.int .i64 k) ∧ w.cell? ⟨g, 2, none⟩ = some (.int .i64 o) ∧ w.cell? ⟨g, 3, none⟩ = some (.int .i64 v) ∧ w.cell? ⟨g, 4, none⟩ = some (.int .i64 x) :=
  ⟨h.e0, h.e1, h.e2, h.e3, h.e4⟩

theorem infoEv : (Try.prog.info? 38).map (fun i => (i.zero, i.size, i.bytes)) = some (some (.agg #[.int .i64 0, .int .i64 0, .int .i64 0, .int .i64 0, .int .i64 0]), 5, 40) := by kernel_rfl
theorem infoAb : (Try.prog.info? 118).map (fun i => (i.zero, i.size, i.bytes)) = some (some .nilIface, 1, 16) := by kernel_rfl

theorem vals_one (e : Ev) : ∀ u ∈ e.vals, u.oneCell' = true := by intro u hu; simp [Ev.vals] at hu; rcases hu with rfl | rfl | rfl | rfl | rfl <;> rfl

theorem add_fin {w y z : World} {B b : Nat} {vl va vl' va' : Value} {S : LogS} {e : Ev} {st la ow : Nat → Int} (hz : addE S e = 0) (hs : addS S e = turnS S e) (hW : Wrote (logR b vl va) w y) (hsub : ∀ q, logR b vl' va' q → logR b vl va q ∨ w.heap.size ≤ q)
    (hy : Wrote (logR b vl' va') y z) (hL : LogRaw z B b vl' va' (S.l ++ [e]) (S.l.map abVal ++ [abVal e]) st la ow) (hst : (turnS S e).st = st) (hla : (turnS S e).la = la) (how : (turnS S e).ow = ow) : AddPost B b vl va S e w (.returned (.int .i64 0)) z := by
  refine ⟨vl', va', by rw [hz], ?_, hW.trans hy hsub, hsub⟩
  rw [hs]
  refine LogRaw.log ?_ (fun h => absurd h (by simp [turnS]))
  rw [hst, hla, how]
  have : (turnS S e).l = S.l ++ [e] := rfl
  rw [this, List.map_append]
  exact hL

set_option maxRecDepth 20000 in
set_option maxHeartbeats 8000000 in
theorem add_yes {w : World} {B b : Nat} {vl va : Value} {S : LogS} (h : LogAt w B b vl va S) (e : Ev) (hr : rB e = true) (hk : okB S e = true) (hcap : (S.l.length + 1) * 40 ≤ 140737488355328) :
    Calls Try.prog 70 #[.pointer (some ⟨b, 0, none⟩), .agg #[.int .i64 e.t, .int .i64 e.k, .int .i64 e.o, .int .i64 e.v, .int .i64 e.b]] w (AddPost B b vl va S e w) := by
  have hn : canB S e.t e.k e.o = true := by unfold okB at hk; simp only [Bool.and_eq_true] at hk; exact hk.1
  have hbad : (e.k == 8) = true ∨ ((e.k == 8) = false ∧ (e.b == badB S e.t e.k e.o) = true) := by
    unfold okB at hk; simp only [Bool.and_eq_true, Bool.or_eq_true] at hk
    cases h8 : (e.k == 8)
    · rcases hk.2 with h' | h'
      · rw [h8] at h'; cases h'
      · exact .inr ⟨rfl, h'⟩
    · exact .inl rfl
  have hs : addS S e = turnS S e := by simp [addS, hr, hk]
  have hz : addE S e = 0 := by simp [addE, hr, hk]
  obtain ⟨t0, t8⟩ := inB_iff.1 (right_in hr)
  have hC := fun w' (hb : Below w.heap.size w w') => can_calls (h.below hb) e.t e.k e.o
  rw [hn] at hC
  have HC := Lib.hid hC
  have hD := fun w' (hb : Below w.heap.size w w') => bad_calls (h.below hb) e.t e.k e.o (fun hk => right_obj (v := e.v) (b := e.b) hr (by revert hk; simp only [Bool.or_eq_true]; rintro ((h | h) | h) <;> simp [h]))
  have HD := Lib.hid hD
  have Hs := Lib.hid hs
  have Hz := Lib.hid hz
  have Hk := Lib.hid hk
  have hlow := h.low
  have hraw := h.raw
  have Hr := Lib.hid hraw
  have hrl := hraw.rlt
  have Hrl := Lib.hid hrl
  have hblt := h.lt
  have Hn := Lib.hid h.nl
  have hro := fun (hq : (e.k == 4 || e.k == 5 || e.k == 6 || e.k == 7) = true) => right_obj hr hq
  have Hro := Lib.hid hro
  obtain ⟨i0, hi, hz0, hz1, hz2⟩ := info_parts infoEv
  have Hi := Lib.hid hi
  have Hz0 := Lib.hid hz0
  have Hz1 := Lib.hid hz1
  have Hz2 := Lib.hid hz2
  obtain ⟨j0, ji, jz0, jz1, jz2⟩ := info_parts infoAb
  have Ji := Lib.hid ji
  have Jz0 := Lib.hid jz0
  have Jz1 := Lib.hid jz1
  have Jz2 := Lib.hid jz2
  clear hrl hs hz hk h hn hC hD hi hz0 hz1 hz2 ji jz0 jz1 jz2 hro hraw
  unfold rB at hr
  obtain ⟨t, k, o, v, x⟩ := e
  simp only at hr hbad HD t0 t8
  obtain ⟨i, rfl⟩ := Int.eq_ofNat_of_zero_le t0
  have hi8 : i < 8 := by omega
  clear t0 t8
  generalize hbd : badB S i k o = bd at hbad HD
  clear hbd
  have hbad2 : (k != 8) = false ∨ ((k != 8) = true ∧ (x != bd) = false) := by
    rcases hbad with h8 | ⟨h8, hx⟩
    · exact .inl (by rw [bne, h8]; rfl)
    · exact .inr ⟨by rw [bne, h8]; rfl, by rw [bne, hx]; rfl⟩
  clear hbad
  rcases hbad2 with h8' | ⟨h8', hx'⟩
  all_goals
    go_enter Try.func70, Try.ntmps70
    go_wp2_with fail
    refine (right_calls _ _ _ _ _ _).mono ?_
    rintro e y1 ⟨rfl, hb⟩
    have hc_y1 := bcell hb
    have hB_y1 : Below w.heap.size w y1 := Below.trans (by go_grown) (hb.mono (by first | omega | (simp <;> omega)))
    have hS_y1 := hb.size
    try simp at hS_y1
    have hA_y1_0 : ∀ x, x < w.heap.size + 1 → x < y1.heap.size := (fun x hx => by omega)
    have hL_y1 : ∀ x, x < w.heap.size → x < y1.heap.size := (fun x hx => by omega)
    clear hb
    rw [hr]
    have e0 : y1.cell? ⟨w.heap.size, 0, none⟩ = some (.int .i64 i) := (hc_y1.1 _ _ (by simp)).trans (cell_new rfl)
    have e1 : y1.cell? ⟨w.heap.size, 1, none⟩ = some (.int .i64 k) := (hc_y1.1 _ _ (by simp)).trans (cell_new rfl)
    have e2 : y1.cell? ⟨w.heap.size, 2, none⟩ = some (.int .i64 o) := (hc_y1.1 _ _ (by simp)).trans (cell_new rfl)
    have e3 : y1.cell? ⟨w.heap.size, 3, none⟩ = some (.int .i64 v) := (hc_y1.1 _ _ (by simp)).trans (cell_new rfl)
    have e4 : y1.cell? ⟨w.heap.size, 4, none⟩ = some (.int .i64 x) := (hc_y1.1 _ _ (by simp)).trans (cell_new rfl)
    go_wp2_with fail
    refine wp_ext_draw 21 mixed (by kernel_rfl) ?_
    simp only [List.take_succ_cons, List.take_zero, List.drop_succ_cons, List.drop_zero]
    repeat ((first | ((apply TextRun.go rfl rfl rfl); (focus (intro w1 hS K hK; have hc := bcell hS; have hs := blt hS; have e0 := keep (Below.trans (show Below y1.heap.size y1 _ by go_grown) (hS.mono (by first | omega | (simp <;> omega)))) e0; have e1 := keep (Below.trans (show Below y1.heap.size y1 _ by go_grown) (hS.mono (by first | omega | (simp <;> omega)))) e1; have e2 := keep (Below.trans (show Below y1.heap.size y1 _ by go_grown) (hS.mono (by first | omega | (simp <;> omega)))) e2; have e3 := keep (Below.trans (show Below y1.heap.size y1 _ by go_grown) (hS.mono (by first | omega | (simp <;> omega)))) e3; have e4 := keep (Below.trans (show Below y1.heap.size y1 _ by go_grown) (hS.mono (by first | omega | (simp <;> omega)))) e4; go_wp2_with (first | (go_at_call 94; (with_reducible refine (HC.out _ (hB_y1.trans (Below.mono (Below.trans (show Below y1.heap.size y1 _ by go_grown) (hS.mono (by first | omega | (simp <;> omega)))) hB_y1.size))).mono ?_); rintro e w' ⟨rfl, hb⟩) | (go_at_call 95; (with_reducible refine (HD.out _ (hB_y1.trans (Below.mono (Below.trans (show Below y1.heap.size y1 _ by go_grown) (hS.mono (by first | omega | (simp <;> omega)))) hB_y1.size))).mono ?_); rintro e w' ⟨rfl, hb⟩)); first | done | exact hS | exact hS.trans (hb.mono hS.size)))) | (refine TextRun.skip rfl ?_) | ((refine TextRun.wantedT rfl rfl rfl ?_); (apply Exists.intro); (apply And.intro); (focus (intro w1 hS K hK; have hc := bcell hS; have hs := blt hS; have e0 := keep (Below.trans (show Below y1.heap.size y1 _ by go_grown) (hS.mono (by first | omega | (simp <;> omega)))) e0; have e1 := keep (Below.trans (show Below y1.heap.size y1 _ by go_grown) (hS.mono (by first | omega | (simp <;> omega)))) e1; have e2 := keep (Below.trans (show Below y1.heap.size y1 _ by go_grown) (hS.mono (by first | omega | (simp <;> omega)))) e2; have e3 := keep (Below.trans (show Below y1.heap.size y1 _ by go_grown) (hS.mono (by first | omega | (simp <;> omega)))) e3; have e4 := keep (Below.trans (show Below y1.heap.size y1 _ by go_grown) (hS.mono (by first | omega | (simp <;> omega)))) e4; go_wp2_with (first | (go_at_call 94; (with_reducible refine (HC.out _ (hB_y1.trans (Below.mono (Below.trans (show Below y1.heap.size y1 _ by go_grown) (hS.mono (by first | omega | (simp <;> omega)))) hB_y1.size))).mono ?_); rintro e w' ⟨rfl, hb⟩) | (go_at_call 95; (with_reducible refine (HD.out _ (hB_y1.trans (Below.mono (Below.trans (show Below y1.heap.size y1 _ by go_grown) (hS.mono (by first | omega | (simp <;> omega)))) hB_y1.size))).mono ?_); rintro e w' ⟨rfl, hb⟩)); first | done | exact hS | exact hS.trans (hb.mono hS.size))))); (simp only [Act.put, List.setIfInBounds_toArray, List.set_cons_zero, List.set_cons_succ]))
    refine TextRun.done ?_
    intro y2 hb
    have hb1 : Below y1.heap.size y1 y2 := Below.trans (show Below y1.heap.size y1 _ by go_grown) (hb.mono (by first | omega | (simp <;> omega)))
    have hy1 : w.heap.size < y1.heap.size := by omega
    have hB : Below w.heap.size w y2 := hB_y1.trans (hb1.mono hB_y1.size)
    have hE : EvBox y2 w.heap.size i k o v x := EvBox.below ⟨e0, e1, e2, e3, e4⟩ hb1
    have hy2 : w.heap.size < y2.heap.size := by have := hb1.size; omega
    clear hb hb1 e0 e1 e2 e3 e4 hc_y1 hB_y1 hS_y1 hA_y1_0 hL_y1 hy1 HC HD
    have hL := Hr.out.below hB
    clear Hr
    clear h8'
    try clear hx'
    have HE := Lib.hid hE
    have HL := Lib.hid hL
    have hrl : ∀ y, logR b vl va y → y < w.heap.size := Hrl.out
    have hnE : ¬ logR b vl va w.heap.size := fun hq => Nat.lt_irrefl _ (hrl _ hq)
    have HnE := Lib.hid hnE
    clear hE hL hrl hnE Hrl
    go_wp2_with fail
    have hS0 : y2.cell? ⟨b, 0, none⟩ = some vl ∧ y2.cell? ⟨w.heap.size, 0, none⟩ = some (.int .i64 i) ∧ y2.cell? ⟨w.heap.size, 1, none⟩ = some (.int .i64 k) ∧ y2.cell? ⟨w.heap.size, 2, none⟩ = some (.int .i64 o) ∧ y2.cell? ⟨w.heap.size, 3, none⟩ = some (.int .i64 v) ∧ y2.cell? ⟨w.heap.size, 4, none⟩ = some (.int .i64 x) := ⟨HL.out.cl, HE.out.all⟩
    refine wp_plan2_draw 8 [0, 1, 2, 3, 4, 5] [6, 7] (fun w' => w'.cell? ⟨b, 0, none⟩ = some vl ∧ w'.cell? ⟨w.heap.size, 0, none⟩ = some (.int .i64 i) ∧ w'.cell? ⟨w.heap.size, 1, none⟩ = some (.int .i64 k) ∧ w'.cell? ⟨w.heap.size, 2, none⟩ = some (.int .i64 o) ∧ w'.cell? ⟨w.heap.size, 3, none⟩ = some (.int .i64 v) ∧ w'.cell? ⟨w.heap.size, 4, none⟩ = some (.int .i64 x)) mixed (by kernel_rfl) noPanicOn hS0 ?_
    clear hS0
    simp only [picks, List.map_cons, List.map_nil, List.getD_cons_zero, List.getD_cons_succ]
    repeat ((apply ReadRun.go rfl); (intro w1 hS; go_simp; first | done | exact rfl); (simp only [Act.put, List.setIfInBounds_toArray, List.set_cons_zero, List.set_cons_succ]))
    refine ReadRun.done ?_
    refine MakeRun.go rfl (fun K hK => ?_)
    go_wp2_with fail
    have hA : Below y2.heap.size y2 (y2.alloc (.cells #[.int .i64 i, .int .i64 k, .int .i64 o, .int .i64 v, .int .i64 x] 38)).drew := ((Below.refl _ y2).alloc (Nat.le_refl _) _).drew
    have hN : ∀ j u, (Ev.vals ⟨i, k, o, v, x⟩)[j]? = some u → (y2.alloc (.cells #[.int .i64 i, .int .i64 k, .int .i64 o, .int .i64 v, .int .i64 x] 38)).drew.cell? ((⟨y2.heap.size, 0, none⟩ : Addr).add j) = some u := fun j u hj => cells_new y2 _ _ j u hj
    refine ⟨⟨keep hA HL.out.cl, (HE.out.below hA).all⟩, ?_⟩
    try simp only [Act.put, List.setIfInBounds_toArray, List.set_cons_zero, List.set_cons_succ]
    refine MakeRun.go rfl (fun K hK => ?_)
    revert hA hN
    generalize (y2.alloc (.cells #[.int .i64 i, .int .i64 k, .int .i64 o, .int .i64 v, .int .i64 x] 38)).drew = y3
    intro hA hN
    have hL3 := HL.out.below hA
    have hE3 := HE.out.below hA
    have hB3 := hB.trans (hA.mono hB.size)
    refine wp_append_at _ (.tmp 39) (.tmp 41) 22 rfl B 38 i0 (.agg #[.int .i64 0, .int .i64 0, .int .i64 0, .int .i64 0, .int .i64 0]) 5 40 Try.underlying22 Hi.out Hz0.out Hz1.out Hz2.out rfl (by decide) _ S.l.length (evCells S.l) rfl hL3.ev ⟨y2.heap.size, 0, none⟩ 1 1 (Ev.vals ⟨i, k, o, v, x⟩) rfl rfl hN (vals_one _) (by unfold maxLen; omega) hcap (by have := hL3.lt; omega) ?_
    intro vl' y4 hown hg hnl hv
    clear hnl
    obtain ⟨gl, cl, rfl⟩ := own_slice hown (Nat.succ_pos _)
    have hP := hL3.push_l ⟨i, k, o, v, x⟩ hown hg hv
    have hE4 := hE3.wrote (Wrote.of_grown (R := logR b vl va) hg (fun k hk => .inr (.inl hk))) HnE.out
    have hc4 := hL3.cl_grown hg
    refine hK _ _ ⟨⟨hc4.1, hE4.all⟩, ?_⟩
    clear hK hN
    try simp only [Act.put, List.setIfInBounds_toArray, List.set_cons_zero, List.set_cons_succ]
    refine MakeRun.done ?_
    have HP := Lib.hid hP
    have HE4 := Lib.hid hE4
    have HB3 := Lib.hid hB3
    obtain ⟨hc5, hf5⟩ := hc4
    clear hP hE4 hB3 hL3 hE3 hown hg hv hA HL HE hB
    go_wp2_with fail
    have hP := HP.out
    have hE5 : EvBox (y4.setCell ⟨b, 0, none⟩ (.slice (some ⟨gl, 0, none⟩) (S.l.length + 1) cl)) w.heap.size i k o v x := HE4.out.wrote (Wrote.setCell (R := logR b vl va) y4 _ (.inl rfl)) HnE.out
    clear HP HE4 hc5 hf5
    revert hP hE5
    generalize (y4.setCell ⟨b, 0, none⟩ (.slice (some ⟨gl, 0, none⟩) (S.l.length + 1) cl)) = y5
    rintro ⟨hL5, hW5, hsub5⟩ hE5
    have hW5' := (Wrote.of_below (R := logR b vl va) HB3.out).trans hW5 (fun x hx => .inl hx)
    have hsub5' : ∀ q, logR b (.slice (some ⟨gl, 0, none⟩) (S.l.length + 1) cl) va q → logR b vl va q ∨ w.heap.size ≤ q := fun q hq => (hsub5 q hq).imp id (fun h => Nat.le_trans HB3.out.size h)
    have HW5 := Lib.hid hW5'
    have Hsub5 := Lib.hid hsub5'
    have HL5 := Lib.hid hL5
    have HE5 := Lib.hid hE5
    have hS5 : y5.cell? ⟨b, 1, none⟩ = some va ∧ y5.cell? ⟨w.heap.size, 0, none⟩ = some (.int .i64 i) ∧ y5.cell? ⟨w.heap.size, 1, none⟩ = some (.int .i64 k) ∧ y5.cell? ⟨w.heap.size, 2, none⟩ = some (.int .i64 o) ∧ y5.cell? ⟨w.heap.size, 3, none⟩ = some (.int .i64 v) ∧ y5.cell? ⟨w.heap.size, 4, none⟩ = some (.int .i64 x) := ⟨hL5.ca, hE5.all⟩
    have hy5 : w.heap.size < y5.heap.size := World.block_lt_of_cell? y5 _ hE5.e0
    clear hL5 hW5 hsub5 hE5 hW5' hsub5' HB3
    refine wp_plan2_draw 9 [0, 1, 2, 3, 4, 5] [6, 7, 8] (fun w' => w'.cell? ⟨b, 1, none⟩ = some va ∧ w'.cell? ⟨w.heap.size, 0, none⟩ = some (.int .i64 i) ∧ w'.cell? ⟨w.heap.size, 1, none⟩ = some (.int .i64 k) ∧ w'.cell? ⟨w.heap.size, 2, none⟩ = some (.int .i64 o) ∧ w'.cell? ⟨w.heap.size, 3, none⟩ = some (.int .i64 v) ∧ w'.cell? ⟨w.heap.size, 4, none⟩ = some (.int .i64 x)) mixed (by kernel_rfl) noPanicOn hS5 ?_
    clear hS5
    simp only [picks, List.map_cons, List.map_nil, List.getD_cons_zero, List.getD_cons_succ]
    repeat ((apply ReadRun.go rfl); (intro w1 hS; go_simp; first | done | exact rfl); (simp only [Act.put, List.setIfInBounds_toArray, List.set_cons_zero, List.set_cons_succ]))
    refine ReadRun.done ?_
    refine MakeRun.go rfl (fun K hK => ?_)
    go_wp2_with (go_at_call 71; refine (of_calls _ _ _ _ _ _).mono ?_; rintro e y6 ⟨rfl, hb⟩)
    have hb6 : Below y5.heap.size y5 y6 := (Below.refl _ y5).drew.trans hb
    clear hb
    refine ⟨⟨keep hb6 HL5.out.ca, (HE5.out.below hb6).all⟩, ?_⟩
    try simp only [Act.put, List.setIfInBounds_toArray, List.set_cons_zero, List.set_cons_succ]
    refine MakeRun.go rfl (fun K hK => ?_)
    go_wp2_with fail
    have hA : Below y6.heap.size y6 (y6.alloc (.cells #[.iface (abOf i k o).ty (abOf i k o).body] 118)) := (Below.refl _ y6).alloc (Nat.le_refl _) _
    have hN : ∀ j u, [abVal ⟨i, k, o, v, x⟩][j]? = some u → (y6.alloc (.cells #[.iface (abOf i k o).ty (abOf i k o).body] 118)).cell? ((⟨y6.heap.size, 0, none⟩ : Addr).add j) = some u := fun j u hj => cells_new y6 _ _ j u hj
    have hA' := hb6.trans (hA.mono hb6.size)
    refine ⟨⟨keep hA' HL5.out.ca, (HE5.out.below hA').all⟩, ?_⟩
    try simp only [Act.put, List.setIfInBounds_toArray, List.set_cons_zero, List.set_cons_succ]
    refine MakeRun.go rfl (fun K hK => ?_)
    clear hA hb6
    revert hA' hN
    generalize (y6.alloc (.cells #[.iface (abOf i k o).ty (abOf i k o).body] 118)) = y7
    intro hN hA
    have hL7 := HL5.out.below hA
    have hE7 := HE5.out.below hA
    refine wp_append_at _ (.tmp 49) (.tmp 52) 127 rfl B 118 j0 .nilIface 1 16 Try.underlying127 Ji.out Jz0.out Jz1.out Jz2.out rfl (by decide) _ S.l.length (S.l.map abVal) rfl (by have := hL7.abo; rw [List.length_map] at this; exact this) ⟨y6.heap.size, 0, none⟩ 1 1 [abVal ⟨i, k, o, v, x⟩] rfl rfl hN (by intro u hu; simp at hu; subst hu; rfl) (by unfold maxLen; omega) (by omega) (by have := hL7.lt; omega) ?_
    intro va' y8 hown hg hnl hv
    clear hnl
    obtain ⟨ga, ca, rfl⟩ := own_slice hown (Nat.succ_pos _)
    have hP := hL7.push_a (abVal ⟨i, k, o, v, x⟩) (by rw [List.length_map]; exact hown) hg hv
    have hE8 := hE7.wrote (Wrote.of_grown (R := logR b vl va) hg (fun k hk => .inr (.inr hk))) HnE.out
    have hc8 := hL7.ca_grown hg
    refine hK _ _ ⟨⟨hc8.1, hE8.all⟩, ?_⟩
    clear hK hN
    try simp only [Act.put, List.setIfInBounds_toArray, List.set_cons_zero, List.set_cons_succ]
    refine MakeRun.done ?_
    have HP := Lib.hid hP
    have HE8 := Lib.hid hE8
    have HA := Lib.hid hA
    obtain ⟨hc9, hf9⟩ := hc8
    clear hP hE8 hL7 hE7 hown hg hv hA HL5 HE5
    go_wp2_with fail
    have hP := HP.out
    have hE9 : EvBox (y8.setCell ⟨b, 1, none⟩ (.slice (some ⟨ga, 0, none⟩) (S.l.length + 1) ca)) w.heap.size i k o v x := HE8.out.wrote (Wrote.setCell (R := logR b vl va) y8 _ (.inl rfl)) HnE.out
    clear HP HE8 hc9 hf9
    revert hP hE9
    generalize (y8.setCell ⟨b, 1, none⟩ (.slice (some ⟨ga, 0, none⟩) (S.l.length + 1) ca)) = y9
    rintro ⟨hL9, hW9, hsub9⟩ hE9
    have hW7 := HW5.out.trans (Wrote.of_below (R := logR b vl va) HA.out) (fun q hq => .inl hq)
    have hW9' := hW7.trans hW9 Hsub5.out
    have hsub9' : ∀ q, logR b (.slice (some ⟨gl, 0, none⟩) (S.l.length + 1) cl) (.slice (some ⟨ga, 0, none⟩) (S.l.length + 1) ca) q → logR b vl va q ∨ w.heap.size ≤ q := fun q hq => by
      rcases hsub9 q hq with hq | hq
      · exact Hsub5.out q hq
      · exact .inr (Nat.le_trans hW7.size hq)
    have HW9 := Lib.hid hW9'
    have Hsub9 := Lib.hid hsub9'
    have HL9 := Lib.hid hL9
    have HE9 := Lib.hid hE9
    have c0 := hL9.cl
    have f0 := hE9.e0
    clear hL9 hW9 hsub9 hE9 hW7 hW9' hsub9' HW5 Hsub5 HA Hn
    have hn1 : S.l.length + 1 ≤ 9223372036854775807 := by omega
    go_wp2_with fail
    refine wp_ext_draw 13 mixed (by kernel_rfl) ?_
    simp only [List.take_succ_cons, List.take_zero, List.drop_succ_cons, List.drop_zero]
    repeat ((first | ((apply TextRun.go rfl rfl rfl); (focus (intro w1 hS K hK; have hc := bcell hS; have hs := blt hS; have c0 := keep (Below.trans (show Below y9.heap.size y9 _ by go_grown) (hS.mono (by first | omega | (simp <;> omega)))) c0; have f0 := keep (Below.trans (show Below y9.heap.size y9 _ by go_grown) (hS.mono (by first | omega | (simp <;> omega)))) f0; go_wp2_with (fail); first | done | exact hS | exact hS.trans (hb.mono hS.size)))) | (refine TextRun.skip rfl ?_) | ((refine TextRun.wantedT rfl rfl rfl ?_); (apply Exists.intro); (apply And.intro); (focus (intro w1 hS K hK; have hc := bcell hS; have hs := blt hS; have c0 := keep (Below.trans (show Below y9.heap.size y9 _ by go_grown) (hS.mono (by first | omega | (simp <;> omega)))) c0; have f0 := keep (Below.trans (show Below y9.heap.size y9 _ by go_grown) (hS.mono (by first | omega | (simp <;> omega)))) f0; go_wp2_with (fail); first | done | exact hS | exact hS.trans (hb.mono hS.size))))); (simp only [Act.put, List.setIfInBounds_toArray, List.set_cons_zero, List.set_cons_succ]))
    refine TextRun.done ?_
    intro y10 hb
    have hL10 := HL9.out.below hb
    have hE10 := HE9.out.below hb
    have hW10 := HW9.out.trans (Wrote.of_below (R := logR b vl va) hb) (fun q hq => .inl hq)
    clear HL9 HE9 HW9 hb c0 f0
    have hL11 := hL10.setLa hi8 S.l.length
    have hE11 : EvBox (y10.setCell ⟨b, 2 + i * 2 + 1, none⟩ (.int .i64 S.l.length)) w.heap.size i k o v x := hE10.wrote (Wrote.setCell (R := logR b vl va) y10 _ (.inl rfl)) HnE.out
    obtain ⟨u0, hu0⟩ := hL10.any (o := 2 + i * 2 + 1) (by omega)
    have hf0 := hL10.free (2 + i * 2 + 1)
    obtain ⟨f0, f1, f2, f3, f4⟩ := hE10.all
    have HL11 := Lib.hid hL11
    have HE11 := Lib.hid hE11
    have HW10 := Lib.hid hW10
    clear hL10 hE10 hL11 hE11 hW10 hcap hn1 HnE hlow hblt
    cases hx : (x != 0)
    · cases h4 : (k == 4)
      · cases h5 : (k == 5)
        · cases h6 : (k == 6)
          · cases h9 : (k == 9)
            · go_wp2
              go_ret
              exact add_fin Hz.out Hs.out HW10.out Hsub9.out (HL11.out.2.mono (fun q hq => hq)) HL11.out.1 (by simp [turnS, hx, h6, h9]) (by simp [turnS]) (by simp [turnS, hx, h4, h5])
            · skip
              go_wp2_with fail
              have hL11 := HL11.out
              have hE11 := HE11.out
              clear HL11 HE11 f0 f1 f2 f3 f4 hu0 hf0
              revert hL11 hE11
              generalize (y10.setCell ⟨b, 2 + i * 2 + 1, none⟩ (.int .i64 S.l.length)) = y11
              rintro ⟨hL11, hW11⟩ hE11
              obtain ⟨f0, f1, f2, f3, f4⟩ := hE11.all
              have HL11 := Lib.hid hL11
              have HW11 := Lib.hid hW11
              clear hL11 hE11 hW11
              go_wp2_with fail
              refine wp_ext_draw 7 mixed (by kernel_rfl) ?_
              simp only [List.take_succ_cons, List.take_zero, List.drop_succ_cons, List.drop_zero]
              repeat ((first | ((apply TextRun.go rfl rfl rfl); (focus (intro w1 hS K hK; have hc := bcell hS; have hs := blt hS; have f0 := keep (Below.trans (show Below y11.heap.size y11 _ by go_grown) (hS.mono (by first | omega | (simp <;> omega)))) f0; have f2 := keep (Below.trans (show Below y11.heap.size y11 _ by go_grown) (hS.mono (by first | omega | (simp <;> omega)))) f2; go_wp2_with (fail); first | done | exact hS | exact hS.trans (hb.mono hS.size)))) | (refine TextRun.skip rfl ?_) | ((refine TextRun.wantedT rfl rfl rfl ?_); (apply Exists.intro); (apply And.intro); (focus (intro w1 hS K hK; have hc := bcell hS; have hs := blt hS; have f0 := keep (Below.trans (show Below y11.heap.size y11 _ by go_grown) (hS.mono (by first | omega | (simp <;> omega)))) f0; have f2 := keep (Below.trans (show Below y11.heap.size y11 _ by go_grown) (hS.mono (by first | omega | (simp <;> omega)))) f2; go_wp2_with (fail); first | done | exact hS | exact hS.trans (hb.mono hS.size))))); (simp only [Act.put, List.setIfInBounds_toArray, List.set_cons_zero, List.set_cons_succ]))
              refine TextRun.done ?_
              intro y12 hb
              have hL12 := HL11.out.below hb
              have hW12 := HW11.out.trans (Wrote.of_below (R := logR b (.slice (some ⟨gl, 0, none⟩) (S.l.length + 1) cl) (.slice (some ⟨ga, 0, none⟩) (S.l.length + 1) ca)) hb) (fun q hq => .inl hq)
              obtain ⟨u1, hu1⟩ := hL12.any (o := 2 + i * 2) (by omega)
              have hf1 := hL12.free (2 + i * 2)
              have hL13 := hL12.setSt hi8 (3)
              have HL13 := Lib.hid hL13
              have HW12 := Lib.hid hW12
              clear hL12 hL13 hW12 hb HL11 HW11 f0 f1 f2 f3 f4
              go_wp2
              go_ret
              exact add_fin Hz.out Hs.out HW10.out Hsub9.out (HW12.out.trans HL13.out.2 (fun q hq => .inl hq)) HL13.out.1 (by simp [turnS, hx, h4, h5, h6, h9]) (by simp [turnS]) (by simp [turnS, hx, h4, h5, h6, h9])
          · have ho := Hro.out (by simp [h6])
            obtain ⟨j, rfl⟩ := Int.eq_ofNat_of_zero_le (inB_iff.1 ho).1
            have hj8 : j < 8 := by have := (inB_iff.1 ho).2; omega
            clear ho
            go_wp2_with fail
            have hL11 := HL11.out
            have hE11 := HE11.out
            clear HL11 HE11 f0 f1 f2 f3 f4 hu0 hf0
            revert hL11 hE11
            generalize (y10.setCell ⟨b, 2 + i * 2 + 1, none⟩ (.int .i64 S.l.length)) = y11
            rintro ⟨hL11, hW11⟩ hE11
            obtain ⟨f0, f1, f2, f3, f4⟩ := hE11.all
            have HL11 := Lib.hid hL11
            have HW11 := Lib.hid hW11
            clear hL11 hE11 hW11
            go_wp2_with fail
            refine wp_ext_draw 7 mixed (by kernel_rfl) ?_
            simp only [List.take_succ_cons, List.take_zero, List.drop_succ_cons, List.drop_zero]
            repeat ((first | ((apply TextRun.go rfl rfl rfl); (focus (intro w1 hS K hK; have hc := bcell hS; have hs := blt hS; have f0 := keep (Below.trans (show Below y11.heap.size y11 _ by go_grown) (hS.mono (by first | omega | (simp <;> omega)))) f0; have f2 := keep (Below.trans (show Below y11.heap.size y11 _ by go_grown) (hS.mono (by first | omega | (simp <;> omega)))) f2; go_wp2_with (fail); first | done | exact hS | exact hS.trans (hb.mono hS.size)))) | (refine TextRun.skip rfl ?_) | ((refine TextRun.wantedT rfl rfl rfl ?_); (apply Exists.intro); (apply And.intro); (focus (intro w1 hS K hK; have hc := bcell hS; have hs := blt hS; have f0 := keep (Below.trans (show Below y11.heap.size y11 _ by go_grown) (hS.mono (by first | omega | (simp <;> omega)))) f0; have f2 := keep (Below.trans (show Below y11.heap.size y11 _ by go_grown) (hS.mono (by first | omega | (simp <;> omega)))) f2; go_wp2_with (fail); first | done | exact hS | exact hS.trans (hb.mono hS.size))))); (simp only [Act.put, List.setIfInBounds_toArray, List.set_cons_zero, List.set_cons_succ]))
            refine TextRun.done ?_
            intro y12 hb
            have hL12 := HL11.out.below hb
            have hW12 := HW11.out.trans (Wrote.of_below (R := logR b (.slice (some ⟨gl, 0, none⟩) (S.l.length + 1) cl) (.slice (some ⟨ga, 0, none⟩) (S.l.length + 1) ca)) hb) (fun q hq => .inl hq)
            obtain ⟨u1, hu1⟩ := hL12.any (o := 2 + j * 2) (by omega)
            have hf1 := hL12.free (2 + j * 2)
            have hL13 := hL12.setSt hj8 (2)
            have HL13 := Lib.hid hL13
            have HW12 := Lib.hid hW12
            clear hL12 hL13 hW12 hb HL11 HW11 f0 f1 f2 f3 f4
            go_wp2
            go_ret
            exact add_fin Hz.out Hs.out HW10.out Hsub9.out (HW12.out.trans HL13.out.2 (fun q hq => .inl hq)) HL13.out.1 (by simp [turnS, hx, h4, h5, h6]) (by simp [turnS]) (by simp [turnS, hx, h4, h5, h6])
        · have ho := Hro.out (by simp [h5])
          obtain ⟨j, rfl⟩ := Int.eq_ofNat_of_zero_le (inB_iff.1 ho).1
          have hj8 : j < 8 := by have := (inB_iff.1 ho).2; omega
          clear ho
          have h6 : (k == 6) = false := by simp at h5 ⊢; omega
          have h9 : (k == 9) = false := by simp at h5 ⊢; omega
          go_wp2_with fail
          have hL11 := HL11.out
          have hE11 := HE11.out
          clear HL11 HE11 f0 f1 f2 f3 f4 hu0 hf0
          revert hL11 hE11
          generalize (y10.setCell ⟨b, 2 + i * 2 + 1, none⟩ (.int .i64 S.l.length)) = y11
          rintro ⟨hL11, hW11⟩ hE11
          obtain ⟨f0, f1, f2, f3, f4⟩ := hE11.all
          have HL11 := Lib.hid hL11
          have HW11 := Lib.hid hW11
          clear hL11 hE11 hW11
          go_wp2_with fail
          refine wp_ext_draw 6 mixed (by kernel_rfl) ?_
          simp only [List.take_succ_cons, List.take_zero, List.drop_succ_cons, List.drop_zero]
          repeat ((first | ((apply TextRun.go rfl rfl rfl); (focus (intro w1 hS K hK; have hc := bcell hS; have hs := blt hS; have f0 := keep (Below.trans (show Below y11.heap.size y11 _ by go_grown) (hS.mono (by first | omega | (simp <;> omega)))) f0; have f2 := keep (Below.trans (show Below y11.heap.size y11 _ by go_grown) (hS.mono (by first | omega | (simp <;> omega)))) f2; go_wp2_with (fail); first | done | exact hS | exact hS.trans (hb.mono hS.size)))) | (refine TextRun.skip rfl ?_) | ((refine TextRun.wantedT rfl rfl rfl ?_); (apply Exists.intro); (apply And.intro); (focus (intro w1 hS K hK; have hc := bcell hS; have hs := blt hS; have f0 := keep (Below.trans (show Below y11.heap.size y11 _ by go_grown) (hS.mono (by first | omega | (simp <;> omega)))) f0; have f2 := keep (Below.trans (show Below y11.heap.size y11 _ by go_grown) (hS.mono (by first | omega | (simp <;> omega)))) f2; go_wp2_with (fail); first | done | exact hS | exact hS.trans (hb.mono hS.size))))); (simp only [Act.put, List.setIfInBounds_toArray, List.set_cons_zero, List.set_cons_succ]))
          refine TextRun.done ?_
          intro y12 hb
          have hL12 := HL11.out.below hb
          have hW12 := HW11.out.trans (Wrote.of_below (R := logR b (.slice (some ⟨gl, 0, none⟩) (S.l.length + 1) cl) (.slice (some ⟨ga, 0, none⟩) (S.l.length + 1) ca)) hb) (fun q hq => .inl hq)
          obtain ⟨u1, hu1⟩ := hL12.any (o := 18 + j) (by omega)
          have hf1 := hL12.free (18 + j)
          have hL13 := hL12.setOw hj8 (-1)
          have HL13 := Lib.hid hL13
          have HW12 := Lib.hid hW12
          clear hL12 hL13 hW12 hb HL11 HW11 f0 f1 f2 f3 f4
          go_wp2
          go_ret
          exact add_fin Hz.out Hs.out HW10.out Hsub9.out (HW12.out.trans HL13.out.2 (fun q hq => .inl hq)) HL13.out.1 (by simp [turnS, hx, h4, h5, h6, h9]) (by simp [turnS]) (by simp [turnS, hx, h4, h5, h6, h9])
      · have ho := Hro.out (by simp [h4])
        obtain ⟨j, rfl⟩ := Int.eq_ofNat_of_zero_le (inB_iff.1 ho).1
        have hj8 : j < 8 := by have := (inB_iff.1 ho).2; omega
        clear ho
        have h6 : (k == 6) = false := by simp at h4 ⊢; omega
        have h9 : (k == 9) = false := by simp at h4 ⊢; omega
        go_wp2_with fail
        have hL11 := HL11.out
        have hE11 := HE11.out
        clear HL11 HE11 f0 f1 f2 f3 f4 hu0 hf0
        revert hL11 hE11
        generalize (y10.setCell ⟨b, 2 + i * 2 + 1, none⟩ (.int .i64 S.l.length)) = y11
        rintro ⟨hL11, hW11⟩ hE11
        obtain ⟨f0, f1, f2, f3, f4⟩ := hE11.all
        have HL11 := Lib.hid hL11
        have HW11 := Lib.hid hW11
        clear hL11 hE11 hW11
        go_wp2_with fail
        refine wp_ext_draw 8 mixed (by kernel_rfl) ?_
        simp only [List.take_succ_cons, List.take_zero, List.drop_succ_cons, List.drop_zero]
        repeat ((first | ((apply TextRun.go rfl rfl rfl); (focus (intro w1 hS K hK; have hc := bcell hS; have hs := blt hS; have f0 := keep (Below.trans (show Below y11.heap.size y11 _ by go_grown) (hS.mono (by first | omega | (simp <;> omega)))) f0; have f2 := keep (Below.trans (show Below y11.heap.size y11 _ by go_grown) (hS.mono (by first | omega | (simp <;> omega)))) f2; go_wp2_with (fail); first | done | exact hS | exact hS.trans (hb.mono hS.size)))) | (refine TextRun.skip rfl ?_) | ((refine TextRun.wantedT rfl rfl rfl ?_); (apply Exists.intro); (apply And.intro); (focus (intro w1 hS K hK; have hc := bcell hS; have hs := blt hS; have f0 := keep (Below.trans (show Below y11.heap.size y11 _ by go_grown) (hS.mono (by first | omega | (simp <;> omega)))) f0; have f2 := keep (Below.trans (show Below y11.heap.size y11 _ by go_grown) (hS.mono (by first | omega | (simp <;> omega)))) f2; go_wp2_with (fail); first | done | exact hS | exact hS.trans (hb.mono hS.size))))); (simp only [Act.put, List.setIfInBounds_toArray, List.set_cons_zero, List.set_cons_succ]))
        refine TextRun.done ?_
        intro y12 hb
        have hL12 := HL11.out.below hb
        have hW12 := HW11.out.trans (Wrote.of_below (R := logR b (.slice (some ⟨gl, 0, none⟩) (S.l.length + 1) cl) (.slice (some ⟨ga, 0, none⟩) (S.l.length + 1) ca)) hb) (fun q hq => .inl hq)
        obtain ⟨u1, hu1⟩ := hL12.any (o := 18 + j) (by omega)
        have hf1 := hL12.free (18 + j)
        have hL13 := hL12.setOw hj8 (i)
        have HL13 := Lib.hid hL13
        have HW12 := Lib.hid hW12
        clear hL12 hL13 hW12 hb HL11 HW11 f0 f1 f2 f3 f4
        go_wp2
        go_ret
        exact add_fin Hz.out Hs.out HW10.out Hsub9.out (HW12.out.trans HL13.out.2 (fun q hq => .inl hq)) HL13.out.1 (by simp [turnS, hx, h4, h6, h9]) (by simp [turnS]) (by simp [turnS, hx, h4, h6, h9])
    · skip
      go_wp2_with fail
      have hL11 := HL11.out
      have hE11 := HE11.out
      clear HL11 HE11 f0 f1 f2 f3 f4 hu0 hf0
      revert hL11 hE11
      generalize (y10.setCell ⟨b, 2 + i * 2 + 1, none⟩ (.int .i64 S.l.length)) = y11
      rintro ⟨hL11, hW11⟩ hE11
      obtain ⟨f0, f1, f2, f3, f4⟩ := hE11.all
      have HL11 := Lib.hid hL11
      have HW11 := Lib.hid hW11
      clear hL11 hE11 hW11
      go_wp2_with fail
      refine wp_ext_draw 7 mixed (by kernel_rfl) ?_
      simp only [List.take_succ_cons, List.take_zero, List.drop_succ_cons, List.drop_zero]
      repeat ((first | ((apply TextRun.go rfl rfl rfl); (focus (intro w1 hS K hK; have hc := bcell hS; have hs := blt hS; have f0 := keep (Below.trans (show Below y11.heap.size y11 _ by go_grown) (hS.mono (by first | omega | (simp <;> omega)))) f0; have f2 := keep (Below.trans (show Below y11.heap.size y11 _ by go_grown) (hS.mono (by first | omega | (simp <;> omega)))) f2; go_wp2_with (fail); first | done | exact hS | exact hS.trans (hb.mono hS.size)))) | (refine TextRun.skip rfl ?_) | ((refine TextRun.wantedT rfl rfl rfl ?_); (apply Exists.intro); (apply And.intro); (focus (intro w1 hS K hK; have hc := bcell hS; have hs := blt hS; have f0 := keep (Below.trans (show Below y11.heap.size y11 _ by go_grown) (hS.mono (by first | omega | (simp <;> omega)))) f0; have f2 := keep (Below.trans (show Below y11.heap.size y11 _ by go_grown) (hS.mono (by first | omega | (simp <;> omega)))) f2; go_wp2_with (fail); first | done | exact hS | exact hS.trans (hb.mono hS.size))))); (simp only [Act.put, List.setIfInBounds_toArray, List.set_cons_zero, List.set_cons_succ]))
      refine TextRun.done ?_
      intro y12 hb
      have hL12 := HL11.out.below hb
      have hW12 := HW11.out.trans (Wrote.of_below (R := logR b (.slice (some ⟨gl, 0, none⟩) (S.l.length + 1) cl) (.slice (some ⟨ga, 0, none⟩) (S.l.length + 1) ca)) hb) (fun q hq => .inl hq)
      obtain ⟨u1, hu1⟩ := hL12.any (o := 2 + i * 2) (by omega)
      have hf1 := hL12.free (2 + i * 2)
      have hL13 := hL12.setSt hi8 (4)
      have HL13 := Lib.hid hL13
      have HW12 := Lib.hid hW12
      clear hL12 hL13 hW12 hb HL11 HW11 f0 f1 f2 f3 f4
      go_wp2
      go_ret
      exact add_fin Hz.out Hs.out HW10.out Hsub9.out (HW12.out.trans HL13.out.2 (fun q hq => .inl hq)) HL13.out.1 (by simp [turnS, hx]) (by simp [turnS]) (by simp [turnS, hx])
end Go.Proofs.Ytadngicebbnnlaa
