/-
  SwapWays: a way, done exchange by exchange, leads from the one to the other; where none is told, the floors are unlike.
-/
import Derived.Test.YtjhlehepnhbbaaaWayA
import Derived.Test.YtjhlehepnhbbaaaFlrLaw
import Derived.Deep.Upon
set_option linter.unusedSimpArgs false
set_option linter.unusedVariables false
namespace Go.Proofs.Ytjhlehepnhbbaaa
open Go.ChangeShapes Go.WideShapes Go.ChangeAt Go.RowKit Go.Deep

/-- An append of a slice of events that came in to nothing. -/
theorem wpList_cpEvs {w : World} {ops : Array Oper} {rest : List Oper} {o : Oper} {a : Act} {Q : Exit → Act → World → Prop} {a0 : Option Addr} {n c : Nat} {l : List Ev} (h : IsEvs w a0 n c l) (hgd : o.guard = none) (s x : Operand)
    (ho : o.op = .call { callee := .builtin .append, args := #[s, x], argTypes := #[22, 22] }) (base : Nat) {va : Option Addr} (hs : a.eval s = .slice va 0 0) (hown : w.ownsRow base 36 5 (.slice va 0 0) 0 []) (hx : a.eval x = .slice a0 n c) (hcap : n ≤ 1000) (hbase : base ≤ w.heap.size)
    (hk : ∀ v' w', OwnL eltEv w' base v' l → Wrote (fun q => Value.ownBlock (.slice va 0 0) = some q) w w' → wpList Try.prog ops Q rest (a.put o.dst v') w') : wpList Try.prog ops Q (o :: rest) a w := by
  obtain ⟨i0, hi, hz0, hz1, hz2⟩ := info_parts infoEv
  rcases Nat.eq_zero_or_pos n with h0 | h0
  · subst h0
    have hl : l = [] := List.eq_nil_of_length_eq_zero h.len
    subst hl
    have hsrc : Src Try.prog i0.size 22 (.slice a0 0 c) 0 [] w := by
      cases a0 with
      | none => exact Src.ofNil w (e' := 36) Try.underlying22 c
      | some ad => exact Src.ofSlice w (e' := 36) Try.underlying22 ad 0 c [] (by simp) (fun j u hu => by simp at hu) (fun u hu => by cases hu)
    have hrun := run_append_nothing (P := Try.prog) w 22 22 o.type 36 i0 Try.underlying22 hi va 0 0 (Nat.le_refl _) (.slice a0 0 c) hsrc
    refine wpList_plain hgd fun K hK => ?_
    unfold Oper.wp
    simp [execOp, ho, resolve, invoke, builtin, hs, hx, hrun, Result.andThen]
    exact hK _ _ (hk _ _ ⟨hown⟩ (Wrote.of_below (Below.refl _ _)))
  · obtain ⟨b, off, he, hc⟩ := h.reads.2 h0
    subst he
    refine wpList_append_own w hgd s x 22 ho base 36 i0 (.agg #[.int .i64 0, .int .i64 0, .int .i64 0, .int .i64 0, .int .i64 0]) 5 40 Try.underlying22 hi hz0 hz1 hz2 rfl (by decide) _ 0 [] hs hown ⟨b, off, none⟩ n c (evCells l) hx (by rw [evCells, flat_len Ev.vals 5 (fun _ => rfl), h.len]) (fun j u hu => by
      have := hc j u hu
      unfold Addr.add
      split
      · rename_i hj; subst hj; exact this
      · exact this) (cells_one l) (by unfold maxLen; omega) (by omega) hbase ?_
    intro v' w' h1 h2 _
    refine hk v' w' ⟨?_⟩ (Wrote.of_grown h2 (fun q hq => hq))
    rw [h.len]
    have h3 : w'.ownsRow base 36 5 v' n (evCells l) := by simpa using h1
    exact h3

/-- The floors, and Normal, tell the same. -/
theorem flrs_same {a b : List Ev} (ha : Thr8 a) (hb : Thr8 b) : eqFB (flrs a) (flrs b) = eqB (normL a) (normL b) := by
  cases hq : eqB (normL a) (normL b)
  · refine eqFB_no fun e => ?_
    have := normL_tr (flrs_tr ha hb e)
    rw [this, eqB_self] at hq; cases hq
  · exact eqFB_iff.2 ((norm_tr (eqB_iff.1 hq)).flrs ha).symm
theorem wayRes_q {n m : Nat} {a b : List Ev} (h : wrongS n a = 0) (h' : wrongS m b = 0) : ∃ W : List Nat, wayRes n m a b = (natsI W, eqB (normL a) (normL b), 0) ∧ (eqB (normL a) (normL b) = false → W = []) ∧ (eqB (normL a) (normL b) = true → Steps a W b ∧ ∀ x ∈ W, x < b.length) := by
  unfold wayRes
  rw [if_neg (by rw [h]; simp), if_neg (by rw [h']; simp)]
  cases hq : eqB (normL a) (normL b)
  · exact ⟨[], by rw [if_pos rfl]; rfl, fun _ => rfl, fun h => by cases h⟩
  · have hT := norm_tr (eqB_iff.1 hq)
    exact ⟨wayL a b b.length, by rw [if_neg (by simp)], (fun h => by cases h), fun _ => ⟨way_leads hT, wayL_lt hT _ (Nat.le_refl _)⟩⟩

set_option maxRecDepth 20000 in
set_option maxHeartbeats 16000000 in
theorem swapWays_law {w : World} {a0 b0 : Option Addr} {n c m d : Nat} {a b : List Ev} (h : IsEvs w a0 n c a) (h' : IsEvs w b0 m d b) :
    Calls Try.prog 9 #[.slice a0 n c, .slice b0 m d] w fun e w' => e = .returned (.bool true) ∧ Below w.heap.size w w' := by
  have HA := Lib.hid h
  have HA' := Lib.hid h'
  clear h h'
  go_enter Try.func9, Try.ntmps9
  go_wp2_with fail
  refine (awake16_calls _).mono ?_
  rintro e w1 ⟨rfl, hb⟩
  have HB1 := Lib.hid hb
  clear hb
  go_wp2_with fail
  refine (rwrong_calls (HA.out.below HB1.out)).mono ?_
  rintro e w2 ⟨rfl, hb⟩
  have HB2 := Lib.hid (HB1.out.trans (hb.mono HB1.out.size))
  clear hb HB1
  go_wp2_with fail
  refine (rwrong_calls (HA'.out.below HB2.out)).mono ?_
  rintro e w3 ⟨rfl, hb⟩
  have HB3 := Lib.hid (HB2.out.trans (hb.mono HB2.out.size))
  clear hb HB2
  by_cases hz : wrongS n a = 0
  case neg =>
    have hz' : (wrongS n a != 0) = true := by simpa [bne] using hz
    clear hz
    generalize wrongS n a = z at *
    generalize wrongS m b = y at *
    go_wp2
    go_ret
    exact ⟨rfl, HB3.out⟩
  have Hz := Lib.hid hz
  by_cases hy : wrongS m b = 0
  case neg =>
    have hy' : (wrongS m b != 0) = true := by simpa [bne] using hy
    rw [hz]
    clear hy hz
    generalize wrongS m b = y at *
    go_wp2
    go_ret
    exact ⟨rfl, HB3.out⟩
  have Hy := Lib.hid hy
  have hn100 : n ≤ 100 := wrong_le16 hz
  have H8 : Hid (Thr8 a) := by obtain ⟨S, hS⟩ := wrong_ofS hz; exact thr8_of (good_of HA.out hn100 hS)
  have H8' : Hid (Thr8 b) := by obtain ⟨S, hS⟩ := wrong_ofS hy; exact thr8_of (good_of HA'.out (wrong_le16 hy) hS)
  have Hfs := Lib.hid (flrs_same H8.out H8'.out)
  have Hlb := Lib.hid HA'.out.len
  have Hla := Lib.hid HA.out.len
  have hm100 : m ≤ 100 := wrong_le16 hy
  obtain ⟨W, hW, hW0, hW1⟩ := wayRes_q hz hy
  have HW := Lib.hid hW
  have HW0 := Lib.hid hW0
  have HW1 := Lib.hid hW1
  rw [hz, hy]
  clear hz hy hW hW0 hW1
  go_wp2_with fail
  refine (way_calls (HA.out.below HB3.out) (HA'.out.below HB3.out)).mono ?_
  rintro e w4 ⟨xa, xc, rfl, hI, hb⟩
  rw [HW.out] at hI ⊢
  simp only at hI ⊢
  have HB4 := Lib.hid (HB3.out.trans (hb.mono HB3.out.size))
  have HX4 := Lib.hid hI
  clear hI hb HW
  go_wp2_with fail
  refine (same_calls (HA.out.below HB4.out) (HA'.out.below HB4.out)).mono ?_
  rintro e w5 ⟨rfl, hb⟩
  rw [sameRes_ok Hz.out Hy.out]
  simp only
  have HB5 := Lib.hid (HB4.out.trans (hb.mono HB4.out.size))
  have HX5 := Lib.hid (HX4.out.below hb)
  clear hb HX4
  go_wp2_with fail
  refine (floors_calls (HA.out.below HB5.out)).mono ?_
  rintro e w6 ⟨u, rfl, hs, hb⟩
  rw [flrRes_good Hz.out] at hs ⊢
  simp only at hs ⊢
  have HB6 := Lib.hid (HB5.out.trans (hb.mono HB5.out.size))
  have HX6 := Lib.hid (HX5.out.below hb)
  have HU6 := Lib.hid hs
  clear hb hs HX5
  go_wp2_with fail
  refine (floors_calls (HA'.out.below HB6.out)).mono ?_
  rintro e w7 ⟨v, rfl, hs, hb⟩
  rw [flrRes_good Hy.out] at hs ⊢
  simp only at hs ⊢
  have HB7 := Lib.hid (HB6.out.trans (hb.mono HB6.out.size))
  have HX7 := Lib.hid (HX6.out.below hb)
  have HU7 := Lib.hid (HU6.out.below hb)
  have HV7 := Lib.hid hs
  clear hb hs HX6 HU6
  go_wp2_with fail
  refine (sameF_calls HU7.out HV7.out).mono ?_
  rintro e w8 ⟨rfl, hb⟩
  rw [Hfs.out]
  have HB8 := Lib.hid (HB7.out.trans (hb.mono HB7.out.size))
  have HX8 := Lib.hid (HX7.out.below hb)
  clear hb HX7 HU7 HV7 Hfs
  revert HW0 HW1
  generalize eqB (normL a) (normL b) = q
  intro HW0 HW1
  have hqq : (q != q) = false := by cases q <;> rfl
  have hww : (wrongS n a : Int) = 0 := Hz.out
  cases q
  case false =>
    have hw := HW0.out rfl
    subst hw
    have hl0 : (natsI ([] : List Nat)).length = 0 := rfl
    rw [hl0]
    clear HX8 HW0 HW1 hl0 hww
    go_wp2
    go_ret
    exact ⟨rfl, HB8.out⟩
  have HW2 := Lib.hid (HW1.out rfl)
  clear HW0 HW1 hww hqq
  have hl0 : (natsI W).length = W.length := natsI_len W
  rw [hl0]
  have HX9 : Hid (IsInts w8 xa W.length xc (natsI W)) := by have := HX8.out; rw [hl0] at this; exact this
  clear HX8 hl0
  have hW63 : W.length ≤ 9223372036854775807 := HX9.out.bd
  have hmade : (w8.alloc (.cells #[] 36)).ownsRow w8.heap.size 36 5 (.slice (some ⟨w8.heap.size, 0, none⟩) 0 0) 0 [] := World.ownsRow_made w8 #[] 0 (Nat.le_refl _) (Nat.zero_le _) rfl
  have Hmade := Lib.hid hmade
  have hal : Below w8.heap.size w8 (w8.alloc (.cells #[] 36)) := (Below.refl _ w8).alloc (Nat.le_refl _) _
  have HAl := Lib.hid ((HA.out.below HB8.out).below hal)
  have HAb := Lib.hid hal
  clear hmade hal
  go_wp2_with (at_builtin; go_loud (refine wpList_cpEvs HAl.out rfl (.tmp 89) (.tmp 90) rfl w8.heap.size rfl Hmade.out rfl (by omega) (by simp) ?_))
  intro v' w9 hown hw
  have hb9 : Below w8.heap.size w8 w9 := Wrote.below HAb.out hw (by simp) (fun q hq => by have : w8.heap.size = q := by simpa [Value.ownBlock] using hq
                                                                                          omega)
  have HB9 := Lib.hid (HB8.out.trans (hb9.mono HB8.out.size))
  obtain ⟨na, nc, rfl, hI⟩ := hown.evs HA.out.wf
  rw [Hla.out] at hI ⊢
  have HN9 := Lib.hid hI
  have HX := Lib.hid (HX9.out.below hb9)
  clear hown hw hb9 hI Hmade HAl HAb HX9
  go_wp2_with fail
  go_loopw [18, 19] (fun u x wr => ∃ (k : Nat) (y : List Ev) (ya : Option Addr) (yc : Nat), k ≤ W.length ∧ x = .int .i64 k ∧ u = .slice ya n yc ∧ Hid (IsEvs wr ya n yc y ∧ Tr a y ∧ Steps y (W.drop k) b ∧ Below w9.heap.size w9 wr)) (fun _ x _ => W.length - (intOf x).toNat)
  case atStart => exact ⟨0, a, na, nc, Nat.zero_le _, by go_num, rfl, HN9.out, Tr.refl a, HW2.out.1, Below.refl ..⟩
  case round =>
    clear HN9
    obtain ⟨k, y, ya, yc, hk, rfl, rfl, HL⟩ := hrel
    by_cases hkw : k < W.length
    · obtain ⟨i, hi⟩ : ∃ i, W[k]? = some i := ⟨_, List.getElem?_eq_getElem hkw⟩
      have hdr : W.drop k = i :: W.drop (k + 1) := by rw [List.drop_eq_getElem_cons hkw]; congr 1; rw [List.getElem?_eq_getElem hkw] at hi; exact Option.some.inj hi
      have hst := HL.out.2.2.1
      rw [hdr] at hst
      rcases hst.inv with ⟨h1, _⟩ | ⟨i', W', y', h1, hex, hst'⟩
      · cases h1
      obtain ⟨rfl, rfl⟩ := List.cons.inj h1
      have hzy := wrong_tr HL.out.2.1 Hz.out
      have hsw := hex.swp HL.out.1.len hzy
      have hyl : y'.length = n := by have := hex.len; have := HL.out.1.len; omega
      obtain ⟨pb, po, q, rfl, hq, hfit, p0⟩ := (HX.out.below HL.out.2.2.2).at hkw
      have hqi : q = (i : Int) := by
        have : (natsI W)[k]? = some (i : Int) := by unfold natsI; rw [List.getElem?_map, hi]; rfl
        rw [this] at hq; exact (Option.some.inj hq).symm
      subst hqi
      have HT2 := Lib.hid (HL.out.2.1.trans (Tr.step (Tr.refl y) hex))
      have Hst2 := Lib.hid hst'
      have Hsw := Lib.hid hsw
      have Hyl := Lib.hid hyl
      clear hi hdr hst h1 hex hst' hzy hsw hyl hq hfit
      go_wp2_with fail
      refine (swap_calls HL.out.1 (i : Int)).mono ?_
      rintro e wy ⟨za, zc, rfl, hI, hb⟩
      rw [Hsw.out] at hI ⊢
      simp only at hI ⊢
      rw [Hyl.out] at hI ⊢
      have HN := Lib.hid (And.intro hI (And.intro HT2.out (And.intro Hst2.out (HL.out.2.2.2.trans (hb.mono HL.out.2.2.2.size)))))
      clear hI hb HT2 Hst2 Hsw Hyl HL p0
      go_wp2
      go_roundw
      case rel => exact ⟨k + 1, _, za, zc, hkw, by go_num, rfl, HN.out⟩
      case measure => exact meas hkw
    · have hkw : k = W.length := Nat.le_antisymm hk (Nat.le_of_not_lt hkw)
      have hst := HL.out.2.2.1
      rw [hkw, List.drop_length] at hst
      have hyb : y = b := by
        rcases hst.inv with ⟨_, h1⟩ | ⟨_, _, _, h1, _⟩
        · exact h1
        · cases h1
      have hI := HL.out.1
      rw [hyb] at hI
      have HB10 := Lib.hid (HB9.out.trans (HL.out.2.2.2.mono HB9.out.size))
      have HI := Lib.hid hI
      clear hst hyb hI HL
      subst hkw
      go_wp2_with fail
      refine (sameE_calls HI.out (HA'.out.below HB10.out)).mono ?_
      rintro e w11 ⟨rfl, hb⟩
      rw [eqB_self]
      have HB11 := Lib.hid (HB10.out.trans (hb.mono HB10.out.size))
      clear hb HI
      go_wp2
      go_ret
      exact ⟨rfl, HB11.out⟩
end Go.Proofs.Ytjhlehepnhbbaaa
