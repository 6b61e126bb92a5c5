/-
  Lists of floors held against one another; SwapNormal, SwapFloors.
-/
import Derived.Test.YtjhlehepnhbbaaaFlrA
import Derived.Test.YtjhlehepnhbbaaaLeast
set_option linter.unusedSimpArgs false
set_option linter.unusedVariables false
namespace Go.Proofs.Ytjhlehepnhbbaaa
open Go.ChangeShapes Go.WideShapes Go.ChangeAt Go.RowKit Go.Deep

open Classical in
noncomputable def eqFB (R S : List (List Ev)) : Bool := decide (R = S)
theorem eqFB_iff {R S : List (List Ev)} : eqFB R S = true ↔ R = S := by unfold eqFB; simp
theorem eqFB_self (R : List (List Ev)) : eqFB R R = true := eqFB_iff.2 rfl
theorem eqFB_no {R S : List (List Ev)} (h : R ≠ S) : eqFB R S = false := by
  cases hb : eqFB R S
  · rfl
  · exact absurd (eqFB_iff.1 hb) h
theorem rows_ne {R S : List (List Ev)} {k : Nat} {r s : List Ev} (hr : R[k]? = some r) (hs : S[k]? = some s) (h : eqB r s = false) : eqFB R S = false :=
  eqFB_no fun e => by rw [e, hs] at hr; rw [Option.some.inj hr, eqB_self] at h; cases h
theorem rows_eq {R S : List (List Ev)} (hl : R.length = S.length) (h : ∀ k, k < R.length → R[k]? = S[k]?) : eqFB R S = true :=
  eqFB_iff.2 (List.ext_getElem? fun k => by
    by_cases hk : k < R.length
    · exact h k hk
    · rw [List.getElem?_eq_none (by omega), List.getElem?_eq_none (by omega)])
theorem rows_len_ne {R S : List (List Ev)} (h : R.length ≠ S.length) : eqFB R S = false := eqFB_no fun e => h (by rw [e])

theorem nodup_le {α : Type} [DecidableEq α] : ∀ {xs ys : List α}, xs.Nodup → (∀ x ∈ xs, x ∈ ys) → xs.length ≤ ys.length
  | [], _, _, _ => Nat.zero_le _
  | x :: xs, ys, h, hs => by
    have h1 := List.nodup_cons.1 h
    have hx : x ∈ ys := hs x (by simp)
    have h2 := nodup_le (xs := xs) (ys := ys.erase x) h1.2 (fun y hy => (List.mem_erase_of_ne (fun e => h1.1 (by rw [← e]; exact hy))).2 (hs y (by simp [hy])))
    rw [List.length_erase_of_mem hx] at h2
    have : 1 ≤ ys.length := List.length_pos_of_mem hx
    rw [List.length_cons]; omega

set_option maxRecDepth 20000 in
set_option maxHeartbeats 8000000 in
theorem sameF_calls {w : World} {v u : Value} {R S : List (List Ev)} (h : SeesF w v R) (h' : SeesF w u S) :
    Calls Try.prog 29 #[v, u] w fun e w' => e = .returned (.bool (eqFB R S)) ∧ Below w.heap.size w w' := by
  obtain ⟨a, c, rfl, h1, h2, h3⟩ := h.ex
  obtain ⟨b, d, rfl, k1, k2, k3⟩ := h'.ex
  have hc' : c ≤ 9223372036854775807 := by unfold maxLen at h2; omega
  have hd' : d ≤ 9223372036854775807 := by unfold maxLen at k2; omega
  have H3 := Lib.hid h3
  have K3 := Lib.hid k3
  clear h h' h2 k2 h3 k3
  by_cases hnm : R.length = S.length
  case neg =>
    have Hn := Lib.hid (rows_len_ne hnm)
    have hb1 : ((R.length : Int) != (S.length : Int)) = true := by simpa [bne] using (show (R.length : Int) ≠ (S.length : Int) by omega)
    clear hnm
    go_enter Try.func29, Try.ntmps29
    go_wp2
    go_ret
    exact ⟨by rw [Hn.out]; rfl, Below.refl ..⟩
  have Hnm := Lib.hid hnm
  rw [← hnm] at k1 ⊢
  clear hnm
  have hb1 : ((R.length : Int) != (R.length : Int)) = false := by simp
  go_enter Try.func29, Try.ntmps29
  go_wp2_with fail
  clear hb1
  go_loopw [5, 6] (fun x _ wr => ∃ k : Nat, k ≤ R.length ∧ x = .int .i64 k ∧ Hid (∀ u, u < k → R[u]? = S[u]?) ∧ Hid (Below w.heap.size w wr)) (fun x _ _ => R.length - (intOf x).toNat)
  case atStart => exact ⟨0, Nat.zero_le _, by go_num, fun u hu => absurd hu (Nat.not_lt_zero _), Below.refl ..⟩
  case round =>
    obtain ⟨k, hk, rfl, HP, HB⟩ := hrel
    by_cases hkn : k < R.length
    · obtain ⟨r, hr⟩ : ∃ r, R[k]? = some r := ⟨_, List.getElem?_eq_getElem hkn⟩
      obtain ⟨s, hs⟩ : ∃ s, S[k]? = some s := ⟨_, List.getElem?_eq_getElem (by rw [← Hnm.out]; exact hkn)⟩
      obtain ⟨g, ra, rc, rfl, c0, hI⟩ := H3.out k r hr
      obtain ⟨g', sa, sc, rfl, d0, hJ⟩ := K3.out k s hs
      have c0 := keep HB.out c0
      have d0 := keep HB.out d0
      have Hst : ∀ W, Below wr.heap.size wr W → Calls Try.prog 17 #[.slice ra r.length rc, .slice sa s.length sc] W fun e w' => e = .returned (.bool (eqB r s)) ∧ Below W.heap.size W w' := fun W hb => sameE_calls ((hI.below HB.out).below hb) ((hJ.below HB.out).below hb)
      have HSt := Lib.hid Hst
      have HNE : Hid (eqB r s = false → eqFB R S = false) := fun h => rows_ne hr hs h
      have HEQ : Hid (eqB r s = true → ∀ u, u < k + 1 → R[u]? = S[u]?) := fun h u hu => by
        by_cases huk : u = k
        · rw [huk, hr, hs, eqB_iff.1 h]
        · exact HP.out u (by omega)
      clear hI hJ hr hs Hst
      go_wp2_with fail
      revert HSt HNE HEQ
      generalize eqB r s = q
      intro HSt HNE HEQ
      refine wp_ext_draw 10 mixed (by kernel_rfl) ?_
      simp only [List.take_succ_cons, List.take_zero, List.drop_succ_cons, List.drop_zero]
      repeat ((first | ((apply TextRun.go rfl rfl rfl); (focus (intro w1 hS K hK; have hc := bcell hS; have hs := blt hS; have c0 := keep hS c0; have d0 := keep hS d0; go_wp2_with ((with_reducible refine (HSt.out _ hS).mono ?_); rintro e w' ⟨rfl, hb⟩); first | done | exact hS | exact hS.trans (hb.mono hS.size)))) | (refine TextRun.skip rfl ?_) | ((refine TextRun.wantedT rfl rfl rfl ?_); (apply Exists.intro); (apply And.intro); (focus (intro w1 hS K hK; have hc := bcell hS; have hs := blt hS; have c0 := keep hS c0; have d0 := keep hS d0; go_wp2_with ((with_reducible refine (HSt.out _ hS).mono ?_); rintro e w' ⟨rfl, hb⟩); first | done | exact hS | exact hS.trans (hb.mono hS.size))))); (simp only [Act.put, List.setIfInBounds_toArray, List.set_cons_zero, List.set_cons_succ]))
      refine TextRun.done ?_
      intro w2 hb
      have HB2 := Lib.hid (HB.out.trans (hb.mono HB.out.size))
      clear hb c0 d0 HSt
      cases q
      · have Hn := Lib.hid (HNE.out rfl)
        go_wp2
        go_ret
        exact ⟨by rw [Hn.out]; rfl, HB2.out⟩
      · have HP2 := Lib.hid (HEQ.out rfl)
        clear HNE HEQ
        go_wp2
        go_roundw
        case rel => exact ⟨k + 1, hkn, by go_num, HP2, HB2⟩
        case measure => exact meas hkn
    · have hkn : R.length = k := Nat.le_antisymm (Nat.le_of_not_lt hkn) hk
      have Hy := Lib.hid (rows_eq Hnm.out (fun u hu => HP.out u (by omega)))
      clear HP
      go_wp2
      go_ret
      exact ⟨by rw [Hy.out]; rfl, HB.out⟩

set_option maxRecDepth 20000 in
set_option maxHeartbeats 4000000 in
theorem swapNormal_law {w : World} {a0 : Option Addr} {n c : Nat} {l : List Ev} (h : IsEvs w a0 n c l) :
    Calls Try.prog 6 #[.slice a0 n c] w fun e w' => e = .returned (.bool true) ∧ Below w.heap.size w w' := by
  have Hev := Lib.hid h
  clear h
  go_enter Try.func6, Try.ntmps6
  go_wp2_with fail
  refine (awake16_calls _).mono ?_
  rintro e w1 ⟨rfl, hb⟩
  have HB1 := Lib.hid hb
  clear hb
  go_wp2_with fail
  refine (normal_calls (Hev.out.below HB1.out)).mono ?_
  rintro e w2 ⟨xa, xc, rfl, hI, hb⟩
  have HI := Lib.hid hI
  have HB2 := Lib.hid (HB1.out.trans (hb.mono HB1.out.size))
  clear hI hb
  go_wp2_with fail
  refine (rnormal_calls (Hev.out.below HB2.out)).mono ?_
  rintro e w3 ⟨ya, yc, rfl, hI, hb⟩
  have HI1 := Lib.hid (HI.out.below hb)
  have HI2 := Lib.hid hI
  have HB3 := Lib.hid (HB2.out.trans (hb.mono HB2.out.size))
  clear hI hb HI
  have Hz : Hid ((normRes n l).2 = (flrRes n l).2) := by
    rw [Hid]
    by_cases hz : wrongS n l = 0
    · rw [normRes_good hz, flrRes_good hz]
    · rw [normRes_bad hz, flrRes_bad hz]
  revert HI1 HI2 Hz
  generalize normRes n l = r
  obtain ⟨xs, z⟩ := r
  intro HI1 HI2 Hz
  simp only at HI1 HI2 ⊢
  go_wp2_with fail
  refine (sameE_calls HI1.out HI2.out).mono ?_
  rintro e w4 ⟨rfl, hb⟩
  have HB4 := Lib.hid (HB3.out.trans (hb.mono HB3.out.size))
  clear hb HI1 HI2
  rw [eqB_self]
  go_wp2_with fail
  refine (floors_calls (Hev.out.below HB4.out)).mono ?_
  rintro e w5 ⟨u, rfl, hs, hb⟩
  have HS1 := Lib.hid hs
  have HB5 := Lib.hid (HB4.out.trans (hb.mono HB4.out.size))
  clear hs hb
  go_wp2_with fail
  refine (rfloors_calls (Hev.out.below HB5.out)).mono ?_
  rintro e w6 ⟨v, rfl, hs, hb⟩
  have HS1 := Lib.hid (HS1.out.below hb)
  have HS2 := Lib.hid hs
  have HB6 := Lib.hid (HB5.out.trans (hb.mono HB5.out.size))
  clear hs hb
  revert HS1 HS2 Hz
  generalize flrRes n l = r
  obtain ⟨R, z2⟩ := r
  intro Hz HS1 HS2
  simp only at HS1 HS2 ⊢
  have hz : z = z2 := Hz.out
  subst hz
  go_wp2_with fail
  refine (sameF_calls HS1.out HS2.out).mono ?_
  rintro e w7 ⟨rfl, hb⟩
  have HB7 := Lib.hid (HB6.out.trans (hb.mono HB6.out.size))
  clear hb HS1 HS2 Hz
  rw [eqFB_self]
  have hzz : (z == z) = true := by simp
  go_wp2
  go_ret
  exact ⟨rfl, HB7.out⟩

/-- A list of events behind a list of one's own. -/
theorem wpList_pushEs {w : World} {ops : Array Oper} {rest : List Oper} {o : Oper} {a : Act} {Q : Exit → Act → World → Prop} (hgd : o.guard = none) (s x : Operand)
    (ho : o.op = .call { callee := .builtin .append, args := #[s, x], argTypes := #[22, 22] }) {v : Value} {B : Nat} {xs ys : List Ev} {b off c : Nat}
    (hs : a.eval s = v) (hx : a.eval x = .slice (some ⟨b, off, none⟩) ys.length c) (hown : OwnL eltEv w B v xs) (hy : IsEvs w (some ⟨b, off, none⟩) ys.length c ys) (h0 : 0 < ys.length) (hB : B ≤ w.heap.size) (hcap : xs.length + ys.length < 1000000)
    (h : ∀ v' w', OwnL eltEv w' B v' (xs ++ ys) → Wrote (fun q => v.ownBlock = some q) w w' → (∀ q, v'.ownBlock = some q → v.ownBlock = some q ∨ w.heap.size ≤ q) → wpList Try.prog ops Q rest (a.put o.dst v') w') :
    wpList Try.prog ops Q (o :: rest) a w := by
  obtain ⟨i0, hi, hz, hs1, hyb⟩ := info_at infoEv
  refine wpList_append_at w hgd s x 22 ho B 36 i0 (.agg #[.int .i64 0, .int .i64 0, .int .i64 0, .int .i64 0, .int .i64 0]) 5 40 Try.underlying22 hi hz hs1 hyb rfl (by decide) v xs.length (evCells xs) hs hown.own ⟨b, off, none⟩ ys.length c (evCells ys) hx
    (flat_len Ev.vals 5 (fun _ => rfl) ys) (fun j u hu => ?_) (cells_one ys) (by unfold maxLen; omega) (by omega) hB (fun v' w' hown' hg _ hv' => ?_)
  · obtain ⟨b', off', he, hc⟩ := hy.reads.2 h0
    cases he
    have := hc j u hu
    unfold Addr.add
    split
    · rename_i hj; subst hj; exact this
    · exact this
  · refine h v' w' ⟨?_⟩ (Wrote.of_grown hg (fun q hq => hq)) hv'
    rw [List.length_append, List.flatMap_append]
    exact hown'

set_option maxRecDepth 20000 in
set_option maxHeartbeats 8000000 in
theorem swapFloors_law {w : World} {a0 : Option Addr} {n c : Nat} {l : List Ev} (h : IsEvs w a0 n c l) :
    Calls Try.prog 8 #[.slice a0 n c] w fun e w' => e = .returned (.bool true) ∧ Below w.heap.size w w' := by
  have Hev := Lib.hid h
  have Hl := Lib.hid h.len
  clear h
  go_enter Try.func8, Try.ntmps8
  go_wp2_with fail
  refine (awake16_calls _).mono ?_
  rintro e w1 ⟨rfl, hb⟩
  have HB1 := Lib.hid hb
  clear hb
  go_wp2_with fail
  refine (rwrong_calls (Hev.out.below HB1.out)).mono ?_
  rintro e w2 ⟨rfl, hb⟩
  have HB2 := Lib.hid (HB1.out.trans (hb.mono HB1.out.size))
  clear hb HB1
  by_cases hz : wrongS n l = 0
  case neg =>
    have hz' : (wrongS n l != 0) = true := by simpa [bne] using hz
    clear hz
    generalize wrongS n l = z at *
    go_wp2
    go_ret
    exact ⟨rfl, HB2.out⟩
  have Hz := Lib.hid hz
  have hn100 : n ≤ 100 := wrong_le16 hz
  have H8 : Hid (Thr8 l) := by obtain ⟨S, hS⟩ := wrong_ofS hz; exact thr8_of (good_of Hev.out hn100 hS)
  rw [hz]
  clear hz
  go_wp2_with fail
  refine (floors_calls (Hev.out.below HB2.out)).mono ?_
  rintro e w3 ⟨u, rfl, hs, hb⟩
  rw [flrRes_good Hz.out] at hs ⊢
  simp only at hs ⊢
  have HB3 := Lib.hid (HB2.out.trans (hb.mono HB2.out.size))
  obtain ⟨fa, fc, hu, hfc, hfm, hat⟩ := hs.ex
  subst hu
  have HA := Lib.hid hat
  have Ht : Hid (topT l l.length ≤ 100) := by have := topT_le l l.length; have := Hl.out; rw [Hid]; omega
  have Hfl : Hid ((flrs l).length = topT l l.length) := flrs_len l
  rw [flrs_len] at hfc ⊢
  have htn : topT l l.length ≤ 100 := Ht.out
  clear hb hs hat hfm
  go_wp2_with fail
  go_loopw [7, 8] (fun v x wr => ∃ f : Nat, f ≤ topT l l.length ∧ x = .int .i64 f ∧ Hid (OwnL eltEv wr w3.heap.size v (cat l f) ∧ Below w3.heap.size w3 wr)) (fun _ x _ => topT l l.length - (intOf x).toNat)
  case atStart => exact ⟨0, Nat.zero_le _, by go_num, OwnL.nil .., Below.refl ..⟩
  case round =>
    obtain ⟨f, hf, rfl, HL⟩ := hrel
    obtain ⟨xa, xc, hx, hxc, _⟩ := HL.out.1.slice
    subst hx
    by_cases hft : f < topT l l.length
    · obtain ⟨g, ra, rc, rfl, c0, hI⟩ := HA.out f _ (flrs_get hft)
      have c0 := keep HL.out.2 c0
      have hne := rowF_some H8.out hft
      have hI2 := hI.below HL.out.2
      obtain ⟨b, off, hra, _⟩ := hI2.reads.2 (Nat.pos_of_ne_zero hne)
      subst hra
      have HI := Lib.hid hI2
      have Hne := Lib.hid (Nat.pos_of_ne_zero hne)
      have hq : (((rowF l f).length : Int) == 0) = false := by simp; intro e; exact hne (by rw [e]; rfl)
      have Hcs := Lib.hid (cat_succ l f)
      have Hcl : Hid ((cat l f).length + (rowF l f).length < 1000000) := by
        have h1 : (rowF l f).length ≤ 100 := by
          unfold rowF
          rw [evsAt_len, (plF_perm H8.out (Nat.le_refl _)).length_eq]
          have := plE_len l l.length f; have := Hl.out; omega
        have h2 : (cat l f).length ≤ 100 := by
          unfold cat
          rw [evsAt_len]
          have h3 := nodup_le (xs := plA l f) (ys := List.range l.length) (plA_nodup H8.out f) (fun i hi => List.mem_range.2 ((plA_mem H8.out).1 hi).1)
          rw [List.length_range] at h3; have := Hl.out; omega
        rw [Hid]; omega
      clear hI hI2 hne hxc
      revert HI Hne hq Hcs Hcl c0
      generalize rowF l f = row
      intro c0 HI Hne hq Hcs Hcl
      go_wp2_with (at_builtin; go_loud (refine wpList_pushEs rfl (.tmp 34) (.tmp 38) rfl rfl rfl HL.out.1 HI.out Hne.out HL.out.2.size Hcl.out ?_))
      intro v' wv hown hw hv
      have HN := Lib.hid (And.intro (show OwnL eltEv wv w3.heap.size v' (cat l (f + 1)) by rw [Hcs.out]; exact hown) (Wrote.below HL.out.2 hw HL.out.2.size (fun q hq => (HL.out.1.lt hq).1)))
      clear hown hw hv HL HI Hne Hcs Hcl hq c0
      go_wp2
      go_roundw
      case rel => exact ⟨f + 1, hft, by go_num, HN.out⟩
      case measure => exact meas hft
    · have hft : topT l l.length = f := Nat.le_antisymm (Nat.le_of_not_lt hft) hf
      have hT := cat_tr H8.out
      rw [hft] at hT
      have hwf : ∀ e ∈ cat l f, e.wf := by
        unfold cat
        exact evsAt_wf Hev.out.wf fun i hi => ((plA_mem H8.out).1 hi).1
      obtain ⟨ya, yc, hy, hI⟩ := HL.out.1.evs hwf
      cases hy
      have hln : (cat l f).length = n := by rw [hT.len]; exact Hl.out
      rw [hln] at hI ⊢
      have HI := Lib.hid hI
      have HB4 := Lib.hid (HB3.out.trans (HL.out.2.mono HB3.out.size))
      have Hzx := Lib.hid (wrong_tr hT Hz.out)
      have Hnn := Lib.hid (normL_tr hT)
      clear hI hwf hT HL hxc
      go_wp2_with fail
      refine (same_calls (Hev.out.below HB4.out) HI.out).mono ?_
      rintro e w5 ⟨rfl, hb⟩
      have HB5 := Lib.hid (HB4.out.trans (hb.mono HB4.out.size))
      clear hb
      rw [sameRes_ok Hz.out Hzx.out, Hnn.out, eqB_self]
      simp only
      go_wp2
      go_ret
      exact ⟨rfl, HB5.out⟩
end Go.Proofs.Ytjhlehepnhbbaaa
