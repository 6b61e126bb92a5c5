/-
  The document's Same and Way; SwapSame.
-/
import Derived.Test.YtjhlehepnhbbaaaWays
import Derived.BigRegion
import Derived.Test.YtjhlehepnhbbaaaClock
set_option linter.unusedSimpArgs false
set_option linter.unusedVariables false
namespace Go.Proofs.Ytjhlehepnhbbaaa
open Go.ChangeShapes Go.WideShapes Go.ChangeAt Go.RowKit Go.Deep

set_option maxRecDepth 20000 in
set_option maxHeartbeats 8000000 in
theorem rsame_calls {w : World} {a0 b0 : Option Addr} {n c m d : Nat} {a b : List Ev} (h : IsEvs w a0 n c a) (h' : IsEvs w b0 m d b) :
    Calls Try.prog 23 #[.slice a0 n c, .slice b0 m d] w fun e w' => e = .returned (.tuple #[.bool (sameRes n m a b).1, .int .i64 (sameRes n m a b).2]) ∧ Below w.heap.size w w' := by
  have H := Lib.hid h
  have H' := Lib.hid h'
  clear h h'
  go_enter Try.func23, Try.ntmps23
  go_wp2_with fail
  refine (rnormal_calls H.out).mono ?_
  rintro e w1 ⟨xa, xc, rfl, hI, hb⟩
  have HB1 := Lib.hid hb
  by_cases hz : wrongS n a = 0
  case neg =>
    rw [normRes_bad hz]
    simp only
    have Hs := Lib.hid (sameRes_a (m := m) (b := b) hz)
    have hz' : (wrongS n a != 0) = true := by simpa [bne] using hz
    clear hb hI hz
    revert hz' Hs
    generalize wrongS n a = z
    intro Hs hz'
    go_wp2
    go_returns
    exact ⟨by rw [Hs.out]; rfl, HB1.out⟩
  rw [normRes_good hz] at hI ⊢
  simp only at hI ⊢
  have Hz := Lib.hid hz
  have HX := Lib.hid hI
  clear hb hI hz
  go_wp2_with fail
  refine (rnormal_calls (H'.out.below HB1.out)).mono ?_
  rintro e w2 ⟨ya, yc, rfl, hI, hb⟩
  have HB2 := Lib.hid (HB1.out.trans (hb.mono HB1.out.size))
  by_cases hy : wrongS m b = 0
  case neg =>
    rw [normRes_bad hy]
    simp only
    have Hs := Lib.hid (sameRes_b Hz.out hy)
    have hy' : (wrongS m b != 0) = true := by simpa [bne] using hy
    clear hb hI hy
    revert hy' Hs
    generalize wrongS m b = z
    intro Hs hy'
    go_wp2
    go_returns
    exact ⟨by rw [Hs.out]; rfl, HB2.out⟩
  rw [normRes_good hy] at hI ⊢
  simp only at hI ⊢
  have Hy := Lib.hid hy
  have HX2 := Lib.hid (HX.out.below hb)
  have HY := Lib.hid hI
  clear hb hI hy HX
  go_wp2_with fail
  refine (sameE_calls HX2.out HY.out).mono ?_
  rintro e w3 ⟨rfl, hb⟩
  have HB3 := Lib.hid (HB2.out.trans (hb.mono HB2.out.size))
  clear hb HX2 HY
  have Hs := Lib.hid (sameRes_ok Hz.out Hy.out)
  go_wp2
  go_returns
  exact ⟨by rw [Hs.out]; rfl, HB3.out⟩

set_option maxRecDepth 20000 in
set_option maxHeartbeats 8000000 in
theorem rnumber_calls {w : World} {a0 : Option Addr} {n c i : Nat} {l : List Ev} (h : IsEvs w a0 n c l) (hi : i < n) (hn : n ≤ 100) :
    Calls Try.prog 54 #[.slice a0 n c, .int .i64 (i : Int)] w fun e w' => e = .returned (.int .i64 ((nmL l i).2 : Int)) ∧ Below w.heap.size w w' := by
  have Hev := Lib.hid h
  obtain ⟨b0, off, x, rfl, hx, _, c0, _, _, _, _⟩ := h.at hi
  obtain ⟨xt, xk, xo, xv, xb⟩ := x
  simp only at c0
  have Hnm : Hid (nmL l i = (xt, cntL l xt (i + 1))) := nmL_at hx
  clear h hx
  go_enter Try.func54, Try.ntmps54
  go_wp2_with fail
  go_loopw [5, 6] (fun u x wr => ∃ k : Nat, k ≤ i + 1 ∧ x = .int .i64 k ∧ u = .int .i64 (cntL l xt k : Int) ∧ Hid (Below w.heap.size w wr)) (fun _ x _ => i + 1 - (intOf x).toNat)
  case atStart => exact ⟨0, Nat.zero_le _, by go_num, rfl, Below.refl ..⟩
  case round =>
    obtain ⟨k, hk, rfl, rfl, HB⟩ := hrel
    by_cases hki : k ≤ i
    · obtain ⟨b1, off1, y, he, hy, _, d0, _, _, _, _⟩ := (Hev.out.below HB.out).at (show k < n by omega)
      cases he
      have c1 := keep HB.out c0
      obtain ⟨yt, yk, yo, yv, yb⟩ := y
      simp only at d0
      have hkn : k < n := by omega
      have hcl : cntL l xt k ≤ k := cntE_le _ _ _
      have hsu := cntL_succ hy xt
      simp only at hsu
      have Hsu := Lib.hid hsu
      clear hsu hy
      go_wp2_with fail
      by_cases hxy : yt = xt
      · subst hxy
        refine wp_ext_draw 11 mixed (by kernel_rfl) ?_
        simp only [List.take_succ_cons, List.take_zero, List.drop_succ_cons, List.drop_zero]
        repeat ((first | ((apply TextRun.go rfl rfl rfl); (focus (intro w1 hS K hK; have hc := bcell hS; have hs := blt hS; have c1 := keep hS c1; have d0 := keep hS d0; go_wp2_with (fail); first | done | exact hS | exact hS.trans (hb.mono hS.size)))) | (refine TextRun.skip rfl ?_) | ((refine TextRun.wantedT rfl rfl rfl ?_); (apply Exists.intro); (apply And.intro); (focus (intro w1 hS K hK; have hc := bcell hS; have hs := blt hS; have c1 := keep hS c1; have d0 := keep hS d0; go_wp2_with (fail); first | done | exact hS | exact hS.trans (hb.mono hS.size))))); (simp only [Act.put, List.setIfInBounds_toArray, List.set_cons_zero, List.set_cons_succ]))
        refine TextRun.done ?_
        intro w2 hb
        have HB2 := Lib.hid (HB.out.trans (hb.mono HB.out.size))
        clear hb d0 c1
        go_wp2
        go_roundw
        case rel => exact ⟨k + 1, by omega, by go_num, by rw [Hsu.out, if_pos rfl]; go_num, HB2⟩
        case measure => exact meas (by omega)
      · have hne : (yt == xt) = false := by simpa using hxy
        refine wp_ext_draw 11 mixed (by kernel_rfl) ?_
        simp only [List.take_succ_cons, List.take_zero, List.drop_succ_cons, List.drop_zero]
        repeat ((first | ((apply TextRun.go rfl rfl rfl); (focus (intro w1 hS K hK; have hc := bcell hS; have hs := blt hS; have c1 := keep hS c1; have d0 := keep hS d0; go_wp2_with (fail); first | done | exact hS | exact hS.trans (hb.mono hS.size)))) | (refine TextRun.skip rfl ?_) | ((refine TextRun.wantedT rfl rfl rfl ?_); (apply Exists.intro); (apply And.intro); (focus (intro w1 hS K hK; have hc := bcell hS; have hs := blt hS; have c1 := keep hS c1; have d0 := keep hS d0; go_wp2_with (fail); first | done | exact hS | exact hS.trans (hb.mono hS.size))))); (simp only [Act.put, List.setIfInBounds_toArray, List.set_cons_zero, List.set_cons_succ]))
        refine TextRun.done ?_
        intro w2 hb
        have HB2 := Lib.hid (HB.out.trans (hb.mono HB.out.size))
        clear hb d0 c1
        go_wp2
        go_roundw
        case rel => exact ⟨k + 1, by omega, by go_num, by rw [Hsu.out, if_neg hxy]; rfl, HB2⟩
        case measure => exact meas (by omega)
    · have hki : k = i + 1 := by omega
      subst hki
      have Hq : Hid ((.int .i64 ((nmL l i).2 : Int) : Value) = .int .i64 (cntL l xt (i + 1) : Int)) := by rw [Hid, Hnm.out]
      clear c0
      go_wp2
      go_ret
      exact ⟨by rw [Hq.out]; rfl, HB.out⟩

theorem mem_swapAt {l : List Ev} {i : Nat} (h : i + 1 < l.length) (hw : ∀ e ∈ l, e.wf) : ∀ e ∈ swapAt l i (l.getD i ev00) (l.getD (i + 1) ev00), e.wf := fun e he => by
  unfold swapAt at he
  have g : ∀ u, u < l.length → (l.getD u ev00).wf := fun u hu => hw _ (by rw [List.getD_eq_getElem?_getD, List.getElem?_eq_getElem hu]; exact List.getElem_mem hu)
  rcases List.mem_or_eq_of_mem_set he with he | rfl
  · rcases List.mem_or_eq_of_mem_set he with he | rfl
    · exact hw e he
    · exact g _ h
  · exact g _ (by omega)
theorem Ex.wfs {l m : List Ev} {i : Nat} (h : Ex l m i) (hw : ∀ e ∈ l, e.wf) : ∀ e ∈ m, e.wf := by rw [h.eq]; exact mem_swapAt h.lt hw
theorem Tr.wfs {l m : List Ev} (h : Tr l m) (hw : ∀ e ∈ l, e.wf) : ∀ e ∈ m, e.wf := by
  induction h with
  | refl => exact hw
  | step _ he ih => exact he.wfs ih
theorem Steps.tr {l m : List Ev} {v : List Nat} (h : Steps l v m) : Tr l m := by
  induction h with
  | nil => exact .refl _
  | cons he _ ih => exact (Tr.one he).trans ih
/-- What stands while k's event is brought down: at step k, the one at p moved to j. -/
noncomputable def dwn (a b : List Ev) (k j : Nat) : List Ev := listF b.length (mvF (evW a b k) (posW a b k) j)
theorem dwn_top {a b : List Ev} (h : Tr a b) {k : Nat} (hk : k < b.length) : dwn a b k (posW a b k) = nowW a b k := by
  have hw := wayAt h k (by omega)
  unfold dwn
  have : mvF (evW a b k) (posW a b k) (posW a b k) = evW a b k := funext fun u => mvF_self _ _ u
  rw [this, ← hw.len]; exact list_listF _
theorem dwn_end {a b : List Ev} (h : Tr a b) {k : Nat} (hk : k < b.length) : dwn a b k k = nowW a b (k + 1) := by
  have hw1 := wayAt h (k + 1) hk
  unfold dwn
  rw [← evW_succ h hk, ← hw1.len]; exact list_listF _
theorem dwn_ex {a b : List Ev} (h : Tr a b) {k j : Nat} (hk : k < b.length) (h1 : k ≤ j) (h2 : j + 1 ≤ posW a b k) : Ex (dwn a b k (j + 1)) (dwn a b k j) j := by
  have hx := way_next h hk
  have hp := hx.lt
  unfold dwn
  refine Ex.listF (by omega) (fun u hu => ?_) ?_
  · have := mvF_step (evW a b k) (p := posW a b k) (j := j) h2
    by_cases h3 : u = j
    · subst h3; rw [sw_i]; have := this (u + 1); rw [if_neg (by omega), if_pos rfl] at this; exact this.symm
    · by_cases h4 : u = j + 1
      · subst h4; rw [sw_i1]; have := this j; rw [if_pos rfl] at this; exact this.symm
      · rw [sw_out h3 h4]; have := this u; rw [if_neg h3, if_neg h4] at this; exact this.symm
  · have e1 : mvF (evW a b k) (posW a b k) (j + 1) j = evW a b k j := by unfold mvF; rw [if_pos (by omega)]
    have e2 : mvF (evW a b k) (posW a b k) (j + 1) (j + 1) = evW a b k (posW a b k) := by unfold mvF; rw [if_neg (by omega), if_pos rfl]
    rw [e1, e2]; exact hx.free j h1 (by omega)

structure NowE (w1 : World) (v : Value) (n B : Nat) (L : List Ev) (u : Value) (D : List Nat) (wr : World) : Prop where
  own : wr.ownsRow w1.heap.size 36 5 v n (evCells L)
  outs : OwnL eltI wr B u (natsI D)
  below : Below w1.heap.size w1 wr
  vb : ∀ q, v.ownBlock = some q → q < B
  sz : B ≤ wr.heap.size
  lo : w1.heap.size ≤ B
section
variable {w1 : World} {v : Value} {n B : Nat} {L L' : List Ev} {u u' : Value} {D D' : List Nat} {wr wy : World}
theorem NowE.go (h : NowE w1 v n B L u D wr) (hb : Below wr.heap.size wr wy) : NowE w1 v n B L u D wy :=
  ⟨ownsRow_at h.own fun g hg => hb.block g (h.own.lt g hg).2, h.outs.below hb, h.below.trans (hb.mono h.below.size), h.vb, Nat.le_trans h.sz hb.size, h.lo⟩
theorem NowE.push (h : NowE w1 v n B L u D wr) (ho : OwnL eltI wy B u' (natsI D')) (hw : Wrote (fun q => u.ownBlock = some q) wr wy) : NowE w1 v n B L u' D' wy :=
  ⟨ownsRow_at h.own fun g hg => hw.block g (h.own.lt g hg).2 (fun e => by have := (h.outs.lt e).1; have := h.vb g hg; omega), ho,
    Wrote.below h.below hw h.below.size (fun q hq => by have := (h.outs.lt hq).1; have := h.lo; omega), h.vb, Nat.le_trans h.sz hw.size, h.lo⟩
end

set_option maxRecDepth 20000 in
set_option maxHeartbeats 16000000 in
theorem rway_calls {w : World} {a0 b0 : Option Addr} {n c m d : Nat} {a b : List Ev} (h : IsEvs w a0 n c a) (h' : IsEvs w b0 m d b) :
    Calls Try.prog 24 #[.slice a0 n c, .slice b0 m d] w (WayPost w (wayRes n m a b)) := by
  have H := Lib.hid h
  have H' := Lib.hid h'
  clear h h'
  go_enter Try.func24, Try.ntmps24
  go_wp2_with fail
  refine (rsame_calls H.out H'.out).mono ?_
  rintro e w1 ⟨rfl, hb⟩
  have HB1 := Lib.hid hb
  clear hb
  by_cases hy : (sameRes n m a b).2 = 0 ∧ (sameRes n m a b).1 = true
  case neg =>
    have Hq : Hid (WayPost w (wayRes n m a b) (.returned (.tuple #[.slice none 0 0, .bool false, .int .i64 (sameRes n m a b).2])) w1) := by
      rw [Hid, wayRes_no (by
        rcases Classical.em ((sameRes n m a b).2 = 0) with h1 | h1
        · refine .inr ?_
          cases h2 : (sameRes n m a b).1
          · rfl
          · exact absurd ⟨h1, h2⟩ hy
        · exact .inl h1)]
      exact WayPost.none HB1.out
    have hor : ((sameRes n m a b).2 != 0) = true ∨ (((sameRes n m a b).2 != 0) = false ∧ (sameRes n m a b).1 = false) := by
      rcases Classical.em ((sameRes n m a b).2 = 0) with h1 | h1
      · refine .inr ⟨by simp [h1], ?_⟩
        cases h2 : (sameRes n m a b).1
        · rfl
        · exact absurd ⟨h1, h2⟩ hy
      · exact .inl (by simpa using h1)
    clear hy
    revert Hq hor
    generalize (sameRes n m a b).2 = z
    generalize (sameRes n m a b).1 = q
    intro Hq hor
    rcases hor with h1 | ⟨h1, rfl⟩
    · go_wp2
      go_returns
      exact Hq.out
    · go_wp2
      go_returns
      exact Hq.out
  obtain ⟨hz, hz', hT, hres⟩ := wayRes_yes hy.1 hy.2
  have hn100 : n ≤ 100 := wrong_le16 hz
  have hnm : m = n := by have := hT.len; rw [H.out.len, H'.out.len] at this; exact this
  subst hnm
  rw [hy.1, hy.2]
  have Hres := Lib.hid hres
  have HT := Lib.hid hT
  have Hlb := Lib.hid H'.out.len
  have Hla := Lib.hid H.out.len
  clear hy hz hz' hT hres
  have hmade : (w1.alloc (.cells #[] 36)).ownsRow w1.heap.size 36 5 (.slice (some ⟨w1.heap.size, 0, none⟩) 0 0) 0 [] := World.ownsRow_made w1 #[] 0 (Nat.le_refl _) (Nat.zero_le _) rfl
  have Hmade := Lib.hid hmade
  have hal : Below w1.heap.size w1 (w1.alloc (.cells #[] 36)) := (Below.refl _ w1).alloc (Nat.le_refl _) _
  have HAl := Lib.hid ((H.out.below HB1.out).below hal)
  have HAb := Lib.hid hal
  clear hmade hal
  go_wp2_with (at_builtin; go_loud (refine wpList_cpEvs HAl.out rfl (.tmp 28) (.tmp 29) rfl w1.heap.size rfl Hmade.out rfl (by omega) (by simp) ?_))
  intro v w2 hown hw
  have hb2 : Below w1.heap.size w1 w2 := Wrote.below HAb.out hw (by simp) (fun q hq => by have : w1.heap.size = q := by simpa [Value.ownBlock] using hq
                                                                                          omega)
  have HN : Hid (NowE w1 v m w2.heap.size (nowW a b 0) (.slice none 0 0) (wayL a b 0) w2) := by
    refine ⟨?_, OwnL.nil .., hb2, fun q hq => (hown.lt hq).2, Nat.le_refl _, hb2.size⟩
    have := hown.own
    rw [Hla.out] at this
    exact this
  obtain ⟨va, vc, rfl, hvc, hvm, _⟩ := hown.slice
  rw [Hla.out] at hvc HN ⊢
  have hvc63 : vc ≤ 9223372036854775807 := by unfold maxLen at hvm; omega
  clear hown hw hb2 Hmade HAl HAb hvm
  revert HN
  generalize w2.heap.size = B
  intro HN
  go_wp2_with fail
  go_loopw [10, 11, 12, 13, 14] (fun u x _ _ _ wr => ∃ k : Nat, k ≤ m ∧ x = .int .i64 k ∧ Hid (NowE w1 (.slice va m vc) m B (nowW a b k) u (wayL a b k) wr)) (fun _ x _ _ _ _ => m - (intOf x).toNat)
  case atStart => exact ⟨0, Nat.zero_le _, by go_num, HN.out⟩
  case round =>
    clear HN
    obtain ⟨k, hk, rfl, HL⟩ := hrel
    by_cases hkm : k < m
    · have hkb : k < b.length := by rw [Hlb.out]; exact hkm
      obtain ⟨g, cap, hge⟩ := own_slice HL.out.own (by omega)
      injection hge with e1 e2 e3
      subst e1 e3
      clear e2
      have Hx := Lib.hid (way_next HT.out hkb)
      have Hat : Hid ((nmL (nowW a b k) (posW a b k)).2 = (nmL b k).2) := congrArg Prod.snd (nmW_at HT.out hkb)
      have Hth := Lib.hid (fun u (h1 : k ≤ u) (h2 : u < posW a b k) => way_th HT.out hkb h1 h2)
      have Htx : Hid ((evW a b k (posW a b k)).t = (b.getD k ev00).t) := congrArg Ev.t Hx.out.at_
      have Htop := Lib.hid (dwn_top HT.out hkb)
      have Hend := Lib.hid (dwn_end HT.out hkb)
      have Hex := Lib.hid (fun j (h1 : k ≤ j) (h2 : j + 1 ≤ posW a b k) => dwn_ex HT.out hkb h1 h2)
      have Hws : Hid (wayL a b (k + 1) = wayL a b k ++ dn (posW a b k) k) := rfl
      have Hwl : Hid ((wayL a b k).length ≤ 10000) := by
        have := wayL_len HT.out k (by omega)
        have : k * b.length ≤ 100 * 100 := Nat.mul_le_mul (by omega) (by rw [Hlb.out]; omega)
        rw [Hid]; omega
      have hpm : posW a b k < m := by rw [← Hlb.out]; exact Hx.out.lt
      have hkp := Hx.out.ge
      have Hnl : Hid ((nowW a b k).length = m) := by rw [Hid, (wayAt HT.out k (by omega)).len]; exact Hlb.out
      have Hwf : Hid (∀ j, k ≤ j → j ≤ posW a b k → ∀ e ∈ dwn a b k j, e.wf) := by
        have h0 : ∀ e ∈ nowW a b k, e.wf := (way_steps HT.out k (by omega)).tr.wfs H.out.wf
        have h1 : ∀ d j, j + d = posW a b k → k ≤ j → ∀ e ∈ dwn a b k j, e.wf := fun d => by
          induction d with
          | zero => intro j hj _; have : j = posW a b k := by omega
                    subst this; rw [Htop.out]; exact h0
          | succ d ih => intro j hj hkj; exact (Hex.out j hkj (by omega)).wfs (ih (j + 1) (by omega) (by omega))
        exact fun j h2 h3 => h1 (posW a b k - j) j (by omega) h2
      obtain ⟨bb, bo, y, rfl, hyy, _, d0, _, _, _, _⟩ := H'.out.at hkm
      obtain ⟨yt, yk, yo, yv, yb⟩ := y
      simp only at d0
      have hyt : (b.getD k ev00).t = yt := by rw [getD_of hyy]
      rw [hyt] at Hth Htx
      have d0 := keep (HB1.out.trans (HL.out.below.mono HB1.out.size)) d0
      have HevB := Lib.hid (H'.out.below (HB1.out.trans (HL.out.below.mono HB1.out.size)))
      clear hyt hyy
      obtain ⟨p, hp⟩ : ∃ p, p = posW a b k := ⟨_, rfl⟩
      rw [← hp] at Hat Hth Htx Htop Hex Hws hpm hkp Hwf
      clear Hx hp hvc
      go_wp2_with fail
      refine (rnumber_calls HevB.out hkm hn100).mono ?_
      rintro e w3 ⟨rfl, hb⟩
      have d0 := keep hb d0
      have HL3 := Lib.hid (HL.out.go hb)
      clear hb HL HevB
      revert Hat
      generalize (nmL b k).2 = want
      intro Hat
      go_wp2_with fail
      go_loopw [13, 14] (fun x _ wr => ∃ j : Nat, k ≤ j ∧ j ≤ p ∧ x = .int .i64 j ∧ Hid (NowE w1 (.slice (some ⟨g, 0, none⟩) m vc) m B (nowW a b k) u10 (wayL a b k) wr ∧ wr.cell? ⟨bb, bo + k * 5, none⟩ = some (.int .i64 yt))) (fun x _ _ => p + 1 - (intOf x).toNat)
      case atStart => exact ⟨k, Nat.le_refl _, hkp, by go_num, HL3.out, d0⟩
      case round =>
        clear HL3 d0
        obtain ⟨j, hkj, hjp, rfl, HQ⟩ := hrel
        have hjm : j < m := by omega
        have hxe : (nowW a b k)[j]? = some (evW a b k j) := getD_at (by rw [Hnl.out]; exact hjm)
        obtain ⟨c0, _, _, _, _⟩ := own_ev HQ.out.1.own hxe
        have d0 := HQ.out.2
        have hI : IsEvs wr (some ⟨g, 0, none⟩) m vc (nowW a b k) := evs_of_own HQ.out.1.own (by rw [← Htop.out]; exact Hwf.out p hkp (Nat.le_refl _))
        have HI := Lib.hid hI
        clear hI hxe
        go_wp2_with fail
        refine (rnumber_calls HI.out hjm hn100).mono ?_
        rintro e w4 ⟨rfl, hb⟩
        have c0 := keep hb c0
        have d0 := keep hb d0
        have HQ4 := Lib.hid (HQ.out.1.go hb)
        clear hb HI HQ
        go_wp2_with fail
        by_cases hjp2 : j = p
        · rw [hjp2] at c0 ⊢
          rw [Htx.out] at c0
          rw [Hat.out]
          clear hjp2 hjm hkj hjp
          refine wp_ext_draw 16 mixed (by kernel_rfl) ?_
          simp only [List.take_succ_cons, List.take_zero, List.drop_succ_cons, List.drop_zero]
          repeat ((first | ((apply TextRun.go rfl rfl rfl); (focus (intro w1 hS K hK; have hc := bcell hS; have hs := blt hS; have c0 := keep hS c0; have d0 := keep hS d0; go_wp2_with (fail); first | done | exact hS | exact hS.trans (hb.mono hS.size)))) | (refine TextRun.skip rfl ?_) | ((refine TextRun.wantedT rfl rfl rfl ?_); (apply Exists.intro); (apply And.intro); (focus (intro w1 hS K hK; have hc := bcell hS; have hs := blt hS; have c0 := keep hS c0; have d0 := keep hS d0; go_wp2_with (fail); first | done | exact hS | exact hS.trans (hb.mono hS.size))))); (simp only [Act.put, List.setIfInBounds_toArray, List.set_cons_zero, List.set_cons_succ]))
          refine TextRun.done ?_
          intro w5 hb
          have HD : Hid (NowE w1 (.slice (some ⟨g, 0, none⟩) m vc) m B (dwn a b k p) u10 (wayL a b k ++ dn p p) w5) := by
            rw [Hid, Htop.out, dn_self, List.append_nil]
            exact HQ4.out.go hb
          clear hb HQ4 c0 d0
          go_wp2_with fail
          go_loopw [10, 13] (fun u x wr => ∃ j : Nat, k ≤ j ∧ j ≤ p ∧ x = .int .i64 j ∧ Hid (NowE w1 (.slice (some ⟨g, 0, none⟩) m vc) m B (dwn a b k j) u (wayL a b k ++ dn p j) wr)) (fun _ x _ => (intOf x).toNat - k)
          case atStart => exact ⟨p, hkp, Nat.le_refl _, by go_num, HD.out⟩
          case round =>
            clear HD
            obtain ⟨j, hkj, hjp, rfl, HQ⟩ := hrel
            by_cases hjk : k < j
            · obtain ⟨i, rfl⟩ : ∃ i, j = i + 1 := ⟨j - 1, by omega⟩
              have him : i + 1 < m := by omega
              have hi0 : i < m := by omega
              have hki : k ≤ i := by omega
              have hdl : (dwn a b k (i + 1)).length = m := by unfold dwn; rw [listF_len]; exact Hlb.out
              have heq := (Hex.out i hki hjp).eq
              obtain ⟨c0, c1, c2, c3, c4⟩ := own_ev HQ.out.own (getD_at (show i < (dwn a b k (i + 1)).length by omega))
              obtain ⟨e0, e1, e2, e3, e4⟩ := own_ev HQ.out.own (getD_at (show i + 1 < (dwn a b k (i + 1)).length by omega))
              revert heq c0 c1 c2 c3 c4 e0 e1 e2 e3 e4
              generalize (dwn a b k (i + 1)).getD i ev00 = X
              generalize (dwn a b k (i + 1)).getD (i + 1) ev00 = Y
              obtain ⟨xt, xk, xo, xv, xb⟩ := X
              obtain ⟨zt, zk, zo, zv, zb⟩ := Y
              intro heq c0 c1 c2 c3 c4 e0 e1 e2 e3 e4
              simp only at c0 c1 c2 c3 c4 e0 e1 e2 e3 e4
              have hfr := own_free HQ.out.own
              have hO := own_swap HQ.out.own i (by omega) xt xk xo xv xb zt zk zo zv zb
              rw [← heq] at hO
              have hW := wrote_swap wr g (i * 5) ((i + 1) * 5) (.int .i64 zt) (.int .i64 zk) (.int .i64 zo) (.int .i64 zv) (.int .i64 zb) (.int .i64 xt) (.int .i64 xk) (.int .i64 xo) (.int .i64 xv) (.int .i64 xb)
              have HO := Lib.hid hO
              have HW := Lib.hid hW
              have Hdn := Lib.hid (dn_succ (p := p) (j := i) hjp)
              have Hcp : Hid ((natsI (wayL a b k ++ dn p (i + 1))).length < 1000000) := by rw [Hid, natsI_len, List.length_append, dn_len]; have := Hwl.out; omega
              clear heq hO hW hdl
              rw [show ((i + 1 : Nat) : Int) = (i : Int) + 1 by omega]
              have hI1 : (k : Int) < (i : Int) + 1 := by omega
              have hI2 : (i : Int) + 1 < (m : Int) := by omega
              go_wp2_with fail
              go_region
              clear c0 c1 c2 c3 c4 e0 e1 e2 e3 e4 hfr
              revert HO HW
              generalize ((((((((((wr.setCell ⟨g, i * 5, none⟩ (.int .i64 zt)).setCell ⟨g, i * 5 + 1, none⟩ (.int .i64 zk)).setCell ⟨g, i * 5 + 2, none⟩ (.int .i64 zo)).setCell ⟨g, i * 5 + 3, none⟩ (.int .i64 zv)).setCell ⟨g, i * 5 + 4, none⟩ (.int .i64 zb)).setCell ⟨g, (i + 1) * 5, none⟩ (.int .i64 xt)).setCell ⟨g, (i + 1) * 5 + 1, none⟩ (.int .i64 xk)).setCell ⟨g, (i + 1) * 5 + 2, none⟩ (.int .i64 xo)).setCell ⟨g, (i + 1) * 5 + 3, none⟩ (.int .i64 xv)).setCell ⟨g, (i + 1) * 5 + 4, none⟩ (.int .i64 xb)).drew = w7
              intro HO HW
              have HP : Hid (NowE w1 (.slice (some ⟨g, 0, none⟩) m vc) m B (dwn a b k i) u10 (wayL a b k ++ dn p (i + 1)) w7) := by
                have hgB : g < B := HQ.out.vb g rfl
                have hgl : w1.heap.size ≤ g := (HQ.out.own.lt g rfl).1
                exact ⟨HO.out, HQ.out.outs.wrote HW.out (fun q hq e => by have := (HQ.out.outs.lt hq).1; omega), Wrote.below HQ.out.below HW.out HQ.out.below.size (fun q hq => by omega), HQ.out.vb, Nat.le_trans HQ.out.sz HW.out.size, HQ.out.lo⟩
              clear HO HW HQ
              go_wp2_with (at_builtin; go_loud (refine wpList_push eltI rfl (.tmp 93) (.tmp 96) rfl (i : Int) rfl rfl rfl HP.out.outs HP.out.sz Hcp.out ?_))
              intro v' wv hown hw hv
              have HF := Lib.hid (HP.out.push (D' := wayL a b k ++ dn p i) (by rw [Hdn.out, ← List.append_assoc, natsI_app]; exact hown) hw)
              clear hown hw hv HP
              go_wp2
              go_roundw
              case rel => exact ⟨i, hki, by omega, by go_num, HF.out⟩
              case measure => exact measD hki
            · have hjk : j = k := by omega
              subst hjk
              have HF : Hid (NowE w1 (.slice (some ⟨g, 0, none⟩) m vc) m B (nowW a b (j + 1)) u10 (wayL a b (j + 1)) wr) := by
                have := HQ.out
                rw [Hend.out, ← Hws.out] at this
                exact this
              clear HQ
              go_wp2
              go_roundw
              case rel => exact ⟨j + 1, hkm, by go_num, HF.out⟩
              case measure => exact meas hkm
        · have hjp3 : j < p := by omega
          have hne : ((evW a b k j).t == yt) = false := by simpa using Hth.out j hkj hjp3
          revert c0 hne
          generalize (evW a b k j).t = zt
          intro c0 hne
          refine wp_ext_draw 16 mixed (by kernel_rfl) ?_
          simp only [List.take_succ_cons, List.take_zero, List.drop_succ_cons, List.drop_zero]
          repeat ((first | ((apply TextRun.go rfl rfl rfl); (focus (intro w1 hS K hK; have hc := bcell hS; have hs := blt hS; have c0 := keep hS c0; have d0 := keep hS d0; go_wp2_with (fail); first | done | exact hS | exact hS.trans (hb.mono hS.size)))) | (refine TextRun.skip rfl ?_) | ((refine TextRun.wantedT rfl rfl rfl ?_); (apply Exists.intro); (apply And.intro); (focus (intro w1 hS K hK; have hc := bcell hS; have hs := blt hS; have c0 := keep hS c0; have d0 := keep hS d0; go_wp2_with (fail); first | done | exact hS | exact hS.trans (hb.mono hS.size))))); (simp only [Act.put, List.setIfInBounds_toArray, List.set_cons_zero, List.set_cons_succ]))
          refine TextRun.done ?_
          intro w5 hb
          have d0 := keep hb d0
          have HN := Lib.hid (And.intro (HQ4.out.go hb) d0)
          clear hb HQ4 c0 d0
          go_wp2
          go_roundw
          case rel => exact ⟨j + 1, by omega, hjp3, by go_num, HN.out⟩
          case measure => exact meas (by omega)
    · have hkm : k = m := Nat.le_antisymm hk (Nat.le_of_not_lt hkm)
      subst hkm
      have hfit : ∀ x ∈ natsI (wayL a b k), Fit x := fun x hx => by
        obtain ⟨y, hy, rfl⟩ := List.mem_map.1 hx
        have := wayL_lt HT.out k (by rw [Hlb.out]; exact Nat.le_refl _) y hy
        have := Hlb.out
        exact Fit.of (by omega) (by omega)
      obtain ⟨xa, xc, rfl, hI⟩ := HL.out.outs.ints hfit
      have HI := Lib.hid hI
      have HB4 := Lib.hid (HB1.out.trans (HL.out.below.mono HB1.out.size))
      have Hr2 : Hid (wayRes k k a b = (natsI (wayL a b k), true, 0)) := by have := Hres.out; rw [Hlb.out] at this; exact this
      clear HL hfit hI Hres
      revert HI Hr2
      generalize natsI (wayL a b k) = L
      intro HI Hr2
      have Hq : Hid (WayPost w (wayRes k k a b) (.returned (.tuple #[.slice xa L.length xc, .bool true, .int .i64 0])) wr) := by
        rw [Hid, Hr2.out]
        exact ⟨xa, xc, rfl, HI.out, HB4.out⟩
      clear HI Hr2 HB4
      go_wp2
      go_returns
      exact Hq.out

set_option maxRecDepth 20000 in
set_option maxHeartbeats 8000000 in
theorem swapSame_law {w : World} {a0 b0 : Option Addr} {n c m d : Nat} {a b : List Ev} (h : IsEvs w a0 n c a) (h' : IsEvs w b0 m d b) :
    Calls Try.prog 5 #[.slice a0 n c, .slice b0 m d] w fun e w' => e = .returned (.bool true) ∧ Below w.heap.size w w' := by
  have HA := Lib.hid h
  have HA' := Lib.hid h'
  clear h h'
  have Hw : Hid ((wayRes n m a b).2.2 = (sameRes n m a b).2 ∧ (wayRes n m a b).2.1 = (sameRes n m a b).1) := by
    by_cases hq : (sameRes n m a b).2 = 0 ∧ (sameRes n m a b).1 = true
    · obtain ⟨_, _, _, hr⟩ := wayRes_yes hq.1 hq.2
      rw [Hid, hr, hq.1, hq.2]
      exact ⟨rfl, rfl⟩
    · have h1 : (sameRes n m a b).1 = false := by
        unfold sameRes at hq ⊢
        split
        · rfl
        · split
          · rfl
          · rename_i h1 h2
            rw [if_neg h1, if_neg h2] at hq
            cases hb : eqB (normL a) (normL b)
            · rfl
            · exact absurd ⟨rfl, hb⟩ hq
      rw [Hid, wayRes_no (.inr h1), h1]
      exact ⟨rfl, rfl⟩
  go_enter Try.func5, Try.ntmps5
  go_wp2_with fail
  refine (awake16_calls _).mono ?_
  rintro e w1 ⟨rfl, hb⟩
  have HB1 := Lib.hid hb
  clear hb
  go_wp2_with fail
  refine (same_calls (HA.out.below HB1.out) (HA'.out.below HB1.out)).mono ?_
  rintro e w2 ⟨rfl, hb⟩
  have HB2 := Lib.hid (HB1.out.trans (hb.mono HB1.out.size))
  clear hb HB1
  go_wp2_with fail
  refine (way_calls (HA.out.below HB2.out) (HA'.out.below HB2.out)).mono ?_
  rintro e w3 ⟨xa, xc, rfl, hI, hb⟩
  have HX := Lib.hid hI
  have HB3 := Lib.hid (HB2.out.trans (hb.mono HB2.out.size))
  clear hb HB2 hI
  go_wp2_with fail
  refine (rsame_calls (HA.out.below HB3.out) (HA'.out.below HB3.out)).mono ?_
  rintro e w4 ⟨rfl, hb⟩
  have HB4 := Lib.hid (HB3.out.trans (hb.mono HB3.out.size))
  have HX4 := Lib.hid (HX.out.below hb)
  clear hb HB3 HX
  go_wp2_with fail
  refine (rway_calls (HA.out.below HB4.out) (HA'.out.below HB4.out)).mono ?_
  rintro e w5 ⟨ya, yc, rfl, hI, hb⟩
  have HB5 := Lib.hid (HB4.out.trans (hb.mono HB4.out.size))
  have HX5 := Lib.hid (HX4.out.below hb)
  have HY5 := Lib.hid hI
  clear hb HB4 HX4 hI
  revert Hw HX5 HY5
  generalize wayRes n m a b = r
  generalize sameRes n m a b = s
  obtain ⟨xs, q, z⟩ := r
  obtain ⟨q', z'⟩ := s
  intro Hw HX5 HY5
  simp only at HX5 HY5 ⊢
  have h1 : z = z' := Hw.out.1
  have h2 : q = q' := Hw.out.2
  subst h1 h2
  clear Hw
  go_wp2_with fail
  refine (equal_calls HX5.out HY5.out).mono ?_
  rintro e w6 ⟨rfl, hb⟩
  have HB6 := Lib.hid (HB5.out.trans (hb.mono HB5.out.size))
  clear hb HB5 HX5 HY5
  have hxx : decide (xs = xs) = true := decide_eq_true rfl
  rw [hxx]
  have hzz : (z == z) = true := by simp
  have hqq : (q == q) = true := by simp
  go_wp2
  go_ret
  exact ⟨rfl, HB6.out⟩
end Go.Proofs.Ytjhlehepnhbbaaa
