/-
  EventTries: Can tells true just if some event with that thread, kind and thing is taken by a copy.
-/
import Derived.Test.YtejcpjhepkhihaaCopy
import Derived.Test.YtejcpjhepkhihaaLeaves
set_option linter.unusedSimpArgs false
set_option linter.unusedVariables false
namespace Go.Proofs.Ytejcpjhepkhihaa
open Go.ChangeShapes Go.WideShapes Go.ChangeAt Go.RowKit Go.Deep

def trX (S : LogS) (t k o : Int) (v : Nat) (s : Bool) : Nat → Bool
  | 0 => s
  | x + 1 => trX S t k o v s x || addE S ⟨t, k, o, v, x⟩ == 0
def trV (S : LogS) (t k o : Int) : Nat → Bool
  | 0 => false
  | v + 1 => trX S t k o v (trV S t k o v) 5
theorem can_of_add {S : LogS} {t k o v x : Int} (h : addE S ⟨t, k, o, v, x⟩ = 0) : canB S t k o = true := by
  have := (addE_ok h).2
  unfold okB at this
  simp only [Bool.and_eq_true] at this
  exact this.1
theorem add_of_can {S : LogS} {t k o : Int} (h : canB S t k o = true) : addE S ⟨t, k, o, if k == 8 then 1 else 0, if k == 8 then 0 else badB S t k o⟩ = 0 := by
  have hr : rightB t k o (if k == 8 then 1 else 0) 0 = true := by unfold canB at h; simp only [Bool.and_eq_true] at h; exact h.1.1
  refine addE_of ?_ ?_
  · unfold rB
    simp only
    by_cases h8 : k = 8
    · subst h8; simpa using hr
    · have h8' : (k == 8) = false := by simpa using h8
      rw [h8'] at hr ⊢
      simp only [Bool.false_eq_true, if_false] at hr ⊢
      unfold rightB at hr ⊢
      simp only [Bool.and_eq_true] at hr ⊢
      refine ⟨hr.1, ?_⟩
      have h2 := hr.2
      by_cases h5 : k = 5
      · subst h5; simp [bodyB, badB] at h2 ⊢; refine ⟨h2, ?_⟩; by_cases hq : S.ow o.toNat = t <;> simp [hq]
      by_cases h6 : k = 6
      · subst h6; simp [bodyB, badB] at h2 ⊢; refine ⟨h2, ?_⟩; by_cases hq : S.st o.toNat = 1 <;> simp [hq]
      by_cases h7 : k = 7
      · subst h7; simp [bodyB, badB] at h2 ⊢; refine ⟨h2, ?_⟩; by_cases hq : S.st o.toNat = 1 <;> simp [hq]
      have hb : badB S t k o = 0 := by unfold badB; simp [h5, h6, h7]
      rw [hb]; exact h2
  · unfold okB
    simp only
    rw [h]
    by_cases h8 : k = 8
    · subst h8; rfl
    · have h8' : (k == 8) = false := by simpa using h8
      rw [h8']; simp
theorem badB_range (S : LogS) (t k o : Int) : ∃ x : Nat, x < 5 ∧ badB S t k o = x := by
  unfold badB
  split
  · exact ⟨2, by omega, rfl⟩
  · split
    · exact ⟨4, by omega, rfl⟩
    · split
      · exact ⟨3, by omega, rfl⟩
      · exact ⟨0, by omega, rfl⟩
theorem trX_mono {S : LogS} {t k o : Int} {v : Nat} : ∀ x, trX S t k o v true x = true
  | 0 => rfl
  | x + 1 => by simp only [trX]; rw [trX_mono x]; rfl
theorem trX_hit {S : LogS} {t k o : Int} {v : Nat} {s : Bool} {x : Nat} (h : addE S ⟨t, k, o, v, x⟩ = 0) : ∀ m, x < m → trX S t k o v s m = true
  | 0, hm => by omega
  | m + 1, hm => by
    simp only [trX]
    by_cases hx : x = m
    · subst hx; rw [h]; simp
    · rw [trX_hit h m (by omega)]; rfl
theorem trX_can {S : LogS} {t k o : Int} {v : Nat} {s : Bool} (hc : canB S t k o = false) : ∀ m, trX S t k o v s m = s
  | 0 => rfl
  | m + 1 => by
    simp only [trX]
    rw [trX_can hc m]
    have : (addE S ⟨t, k, o, v, m⟩ == 0) = false := by
      rw [beq_eq_false_iff_ne]
      intro h
      rw [can_of_add h] at hc
      cases hc
    rw [this, Bool.or_false]
theorem tries_plain (S : LogS) (t k o : Int) : trV S t k o 2 = canB S t k o := by
  cases hc : canB S t k o
  · simp only [trV]; rw [trX_can hc, trX_can hc]
  · have h := add_of_can hc
    obtain ⟨x, hx, hb⟩ := badB_range S t k o
    simp only [trV]
    by_cases h8 : (k == 8) = true
    · rw [if_pos h8, if_pos h8] at h
      exact trX_hit (v := 1) (x := 0) h 5 (by omega)
    · rw [if_neg h8, if_neg h8, hb] at h
      rw [trX_hit (v := 0) (x := x) h 5 hx, trX_mono]

set_option maxRecDepth 20000 in
set_option maxHeartbeats 8000000 in
theorem tries_law {w : World} {a0 : Option Addr} {n c : Nat} {l : List Ev} (h : IsEvs w a0 n c l) (hcap : (n + 1) * 40 ≤ 140737488355328) (t k o : Int) :
    Calls Try.prog 10 #[.slice a0 n c, .int .i64 t, .agg #[.int .i64 k, .int .i64 o]] w fun e w' => e = .returned (.bool true) ∧ Below w.heap.size w w' := by
  have Hl := Lib.hid h.len
  rcases ofS_cases l with ⟨S, hR, hSl, hG⟩ | ⟨S, z, p, hR, hz⟩
  · have HR := Lib.hid hR
    have HSl := Lib.hid hSl
    have Hlen := Lib.hid (show S.l.length = n by rw [hSl]; exact h.len)
    clear hR hSl hG
    go_enter Try.func10, Try.ntmps10
    go_wp2_with fail
    refine (awake_calls _).mono ?_
    rintro e w1 ⟨rfl, hb⟩
    have A1 := Lib.hid (AcBox.below (g := w.heap.size) ⟨cell_new (w := w) (cs := #[.int .i64 k, .int .i64 o]) (t := 30) (i := 0) rfl, cell_new (w := w) (cs := #[.int .i64 k, .int .i64 o]) (t := 30) (i := 1) rfl⟩ hb)
    have HB1 := Lib.hid (Below.trans (show Below w.heap.size w _ by go_grown) (hb.mono (by simp)))
    clear hb
    go_wp2_with fail
    refine (rof_ok (h.below HB1.out) HR.out).mono ?_
    rintro e w2 ⟨rfl, hb⟩
    have HB2 := Lib.hid (HB1.out.trans (hb.mono HB1.out.size))
    have A2 := Lib.hid (A1.out.below hb)
    clear hb A1
    go_wp2_with (refine wpList_store_row rfl 34 (.tmp 8) (.tmp 24) rfl w2.heap.size (stArr S.st S.ow) rfl rfl 34 #[.int .i64 0, .int .i64 0, .int .i64 0, .int .i64 0, .int .i64 0, .int .i64 0, .int .i64 0, .int .i64 0, .int .i64 0, .int .i64 0, .int .i64 0, .int .i64 0, .int .i64 0, .int .i64 0, .int .i64 0, .int .i64 0] (MapKept.heap_alloc w2 _).1 infoState rfl (stArr_one _ _) ?_)
    have hrow := (row_made w2 #[.int .i64 0, .int .i64 0, .int .i64 0, .int .i64 0, .int .i64 0, .int .i64 0, .int .i64 0, .int .i64 0, .int .i64 0, .int .i64 0, .int .i64 0, .int .i64 0, .int .i64 0, .int .i64 0, .int .i64 0, .int .i64 0] (stArr S.st S.ow) 34).2
    revert hrow
    generalize ((w2.alloc (.cells #[.int .i64 0, .int .i64 0, .int .i64 0, .int .i64 0, .int .i64 0, .int .i64 0, .int .i64 0, .int .i64 0, .int .i64 0, .int .i64 0, .int .i64 0, .int .i64 0, .int .i64 0, .int .i64 0, .int .i64 0, .int .i64 0] 34)).setRow w2.heap.size (stArr S.st S.ow)) = w3
    intro hb
    have HB3 := Lib.hid (HB2.out.trans (hb.mono HB2.out.size))
    have A3 := Lib.hid (A2.out.below hb)
    clear hb A2
    refine (lof_ok (h.below HB3.out) (by omega) HR.out).mono ?_
    rintro e w4 ⟨b, vl, va, rfl, hL, hb⟩
    have HB4 := Lib.hid (HB3.out.trans (hb.mono HB3.out.size))
    have A4 := Lib.hid (A3.out.below hb)
    have HL4 := Lib.hid hL
    clear hb hL A3
    generalize w3.heap.size = B at *
    obtain ⟨g0, g1⟩ := A4.out
    go_wp2_with fail
    refine (can_calls HL4.out _ _ _).mono ?_
    rintro e w5 ⟨rfl, hb⟩
    have H5 := Lib.hid (And.intro (HL4.out.below hb) (And.intro (A4.out.below hb) (HB4.out.trans (hb.mono HB4.out.size))))
    clear hb g0 g1 HL4 A4 HB4
    have hplain := tries_plain S t k o
    have Hp := Lib.hid hplain
    clear hplain
    generalize canB S t k o = cb at *
    go_wp2
    go_loopw [15, 16] (fun u v wr => ∃ i : Nat, i ≤ 2 ∧ v = .int .i64 i ∧ u = .bool (trV S t k o i) ∧ Hid (LogAt wr B b vl va S ∧ AcBox wr w.heap.size k o ∧ Below w.heap.size w wr)) (fun _ v _ => 2 - (intOf v).toNat)
    case atStart => exact ⟨0, by omega, rfl, rfl, H5.out⟩
    case round =>
      clear H5
      obtain ⟨i, hi, rfl, rfl, H⟩ := hrel
      by_cases hlt : i < 2
      · have Hv : Hid (trV S t k o (i + 1) = trX S t k o i (trV S t k o i) 5) := rfl
        generalize trV S t k o i = sb at *
        go_wp2
        have hd : decide ((i : Int) < 2) = true := by simp; omega
        simp only [hd]
        have Hlt := Lib.hid hlt
        clear hlt hd
        rename World => wo
        go_loopw [15, 17] (fun u v wz => ∃ j : Nat, j ≤ 5 ∧ v = .int .i64 j ∧ u = .bool (trX S t k o i sb j) ∧ Hid (LogAt wz B b vl va S ∧ AcBox wz w.heap.size k o ∧ Below w.heap.size w wz)) (fun _ v _ => 5 - (intOf v).toNat)
        case atStart => exact ⟨0, by omega, rfl, rfl, H.out⟩
        case round =>
          obtain ⟨j, hj, rfl, rfl, H2⟩ := hrel
          by_cases hjl : j < 5
          · have hx : trX S t k o i sb (j + 1) = (trX S t k o i sb j || addE S ⟨t, k, o, i, j⟩ == 0) := rfl
            have Hx := Lib.hid hx
            clear hx
            go_wp2_with fail
            refine (lcopy_calls H2.out.1 (by rw [Hlen.out]; omega)).mono ?_
            rintro e z2 ⟨b', vl', va', rfl, hM, hb⟩
            have A := Lib.hid (H2.out.2.1.below hb)
            have HM := Lib.hid (And.intro hM hb)
            clear hM hb
            obtain ⟨g0, g1⟩ := A.out
            go_wp2_with fail
            refine (add_calls HM.out.1 ⟨t, k, o, i, j⟩ (by rw [Hlen.out]; exact hcap)).mono ?_
            rintro e z3 ⟨vl2, va2, rfl, hL3, hW, hsub⟩
            have hb3 := Wrote.below HM.out.2 hW HM.out.2.size HM.out.1.base
            have H3 := Lib.hid (And.intro (H2.out.1.below hb3) (And.intro (H2.out.2.1.below hb3) (H2.out.2.2.trans (hb3.mono H2.out.2.2.size))))
            clear hL3 hW hsub hb3 HM A g0 g1
            by_cases hz : addE S ⟨t, k, o, i, j⟩ = 0
            · have Hy : Hid (trX S t k o i sb (j + 1) = true) := by unfold Hid; rw [Hx.out, hz]; simp
              rw [hz]
              clear hz
              generalize trX S t k o i sb j = q
              go_wp2
              go_roundw
              case rel => first | exact ⟨j + 1, by omega, by go_num, by rw [Hy.out], H3.out⟩ | exact ⟨_, _, _, _, _, _, _, _, _, _, _, _, _, _, _, _, _, _, _, _, _, _, _, _, _, ⟨j + 1, by omega, by go_num, by rw [Hy.out], H3.out⟩, rfl⟩
              case measure => simp [intOf]; omega
            · have hz' : (addE S ⟨t, k, o, i, j⟩ == 0) = false := by simpa using hz
              have Hy : Hid (trX S t k o i sb (j + 1) = trX S t k o i sb j) := by unfold Hid; rw [Hx.out, hz', Bool.or_false]
              clear hz
              generalize trX S t k o i sb j = q at *
              generalize addE S ⟨t, k, o, i, j⟩ = q2 at *
              go_wp2
              go_roundw
              case rel => first | exact ⟨j + 1, by omega, by go_num, by rw [Hy.out], H3.out⟩ | exact ⟨_, _, _, _, _, _, _, _, _, _, _, _, _, _, _, _, _, _, _, _, _, _, _, _, _, ⟨j + 1, by omega, by go_num, by rw [Hy.out], H3.out⟩, rfl⟩
              case measure => simp [intOf]; omega
          · have hj5 : j = 5 := by omega
            subst hj5
            have hlt := Hlt.out
            rw [← Hv.out] at *
            generalize hq : trV S t k o (i + 1) = q at *
            have Hq := Lib.hid hq
            clear hq
            go_wp2
            go_roundw
            case rel => exact ⟨i + 1, by have := Hlt.out; omega, by go_num, by rw [Hq.out], H2.out⟩
            case measure => simp [intOf]; omega
      · have hi2 : i = 2 := by omega
        subst hi2
        rw [Hp.out]
        go_wp2
        go_ret
        exact ⟨by simp, H.out.2.2⟩
  · have HR := Lib.hid hR
    have Hz := Lib.hid hz
    have hz' : (z != 0) = true := by simpa [bne] using hz
    clear hR hz
    go_enter Try.func10, Try.ntmps10
    go_wp2_with fail
    refine (awake_calls _).mono ?_
    rintro e w1 ⟨rfl, hb⟩
    have HB1 := Lib.hid (Below.trans (show Below w.heap.size w _ by go_grown) (hb.mono (by simp)))
    clear hb
    go_wp2_with fail
    refine (rof_no (h.below HB1.out) HR.out Hz.out).mono ?_
    rintro e w2 ⟨rfl, hb⟩
    have HB2 := Lib.hid (HB1.out.trans (hb.mono HB1.out.size))
    clear hb
    go_wp2_with (refine wpList_store_row rfl 34 (.tmp 8) (.tmp 24) rfl w2.heap.size zArr rfl rfl 34 #[.int .i64 0, .int .i64 0, .int .i64 0, .int .i64 0, .int .i64 0, .int .i64 0, .int .i64 0, .int .i64 0, .int .i64 0, .int .i64 0, .int .i64 0, .int .i64 0, .int .i64 0, .int .i64 0, .int .i64 0, .int .i64 0] (MapKept.heap_alloc w2 _).1 infoState rfl zArr_one ?_)
    go_ret
    exact ⟨rfl, HB2.out.trans ((row_made w2 #[.int .i64 0, .int .i64 0, .int .i64 0, .int .i64 0, .int .i64 0, .int .i64 0, .int .i64 0, .int .i64 0, .int .i64 0, .int .i64 0, .int .i64 0, .int .i64 0, .int .i64 0, .int .i64 0, .int .i64 0, .int .i64 0] zArr 34).2.mono HB2.out.size)⟩
end Go.Proofs.Ytejcpjhepkhihaa
