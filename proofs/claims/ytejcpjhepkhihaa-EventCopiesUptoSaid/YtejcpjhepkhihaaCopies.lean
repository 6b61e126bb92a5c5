/-
  EventCopies: copies know nothing of one another.
-/
import Derived.Test.YtejcpjhepkhihaaAdds
import Derived.Test.YtejcpjhepkhihaaCopy
import Derived.Laws.AppendOwnNone
set_option linter.unusedSimpArgs false
set_option linter.unusedVariables false
namespace Go.Proofs.Ytejcpjhepkhihaa
open Go.ChangeShapes Go.WideShapes Go.ChangeAt Go.RowKit Go.Deep

theorem LogAt.under {w w' : World} {B b Bc : Nat} {vl va : Value} {S : LogS} (h : LogAt w B b vl va S) (hlt : ∀ x, logR b vl va x → x < Bc) (hb : Below Bc w w') : LogAt w' B b vl va S :=
  h.frame (hb.block b (hlt b (.inl rfl))) (fun g hg => hb.block g (hlt g (.inr (.inl hg)))) (fun g hg => hb.block g (hlt g (.inr (.inr hg))))

/-- An append of a slice of events that came in. -/
theorem wpList_append_evs {w : World} {ops : Array Oper} {rest : List Oper} {o : Oper} {a : Act} {Q : Exit → Act → World → Prop} {a0 : Option Addr} {n c : Nat} {l : List Ev} (h : IsEvs w a0 n c l) (hgd : o.guard = none) (s x : Operand)
    (ho : o.op = .call { callee := .builtin .append, args := #[s, x], argTypes := #[24, 24] }) (base : Nat) (v : Value) (hs : a.eval s = v) (hown : w.ownsRow base 23 5 v 0 []) (hx : a.eval x = .slice a0 n c) (hcap : n * 40 ≤ 140737488355328) (hbase : base ≤ w.heap.size) (hc0 : a0 = none → c = 0)
    (hk : ∀ v' w', w'.ownsRow base 23 5 v' n (evCells l) → w.grownBy w' v.ownBlock → wpList Try.prog ops Q rest (a.put o.dst v') w') : wpList Try.prog ops Q (o :: rest) a w := by
  obtain ⟨i0, hi, hz0, hz1, hz2⟩ := info_parts infoEv
  cases a0 with
  | none =>
    have hn : n = 0 := by
      rcases Nat.eq_zero_or_pos n with h0 | h0
      · exact h0
      · obtain ⟨_, _, he, _⟩ := h.reads.2 h0; cases he
    subst hn
    have hl : l = [] := List.eq_nil_of_length_eq_zero h.len
    subst hl
    have hc := hc0 rfl
    subst hc
    refine wpList_append_own_none hgd s x 24 ho base 23 i0 5 Try.underlying24 hi v 0 [] hs hown hx ?_
    exact hk v w hown (mod_refl w _)
  | some ad =>
    have hnews : ∀ j u, (evCells l)[j]? = some u → w.cell? (ad.add j) = some u := by
      rcases Nat.eq_zero_or_pos n with h0 | h0
      · have hl : l = [] := List.eq_nil_of_length_eq_zero (by rw [h.len]; exact h0)
        subst hl
        intro j u hu
        simp [evCells] at hu
      · obtain ⟨b, off, he, hc⟩ := h.reads.2 h0
        cases he
        intro j u hu
        have := hc j u hu
        unfold Addr.add
        split
        · rename_i hj; subst hj; exact this
        · exact this
    refine wpList_append_own w hgd s x 24 ho base 23 i0 (.agg #[.int .i64 0, .int .i64 0, .int .i64 0, .int .i64 0, .int .i64 0]) 5 40 Try.underlying24 hi hz0 hz1 hz2 rfl (by decide) v 0 [] hs hown ad n c (evCells l) hx (by rw [evCells, flat_len Ev.vals 5 (fun _ => rfl), h.len]) hnews (one_cells l) (by unfold maxLen; omega) (by omega) hbase ?_
    intro v' w' h1 h2 _
    exact hk v' w' (by simpa using h1) h2

set_option maxRecDepth 20000 in
set_option maxHeartbeats 8000000 in
theorem copies_law {w : World} {a0 b0 : Option Addr} {n c m d : Nat} {l r : List Ev} (h : IsEvs w a0 n c l) (h' : IsEvs w b0 m d r) (hcap : (n + m) * 40 ≤ 140737488355328) (hc0 : a0 = none → c = 0) :
    Calls Try.prog 12 #[.slice a0 n c, .slice b0 m d] w fun e w' => e = .returned (.bool true) ∧ Below w.heap.size w w' := by
  have Hl := Lib.hid h.len
  rcases ofS_cases l with ⟨S, hR, hSl, hG⟩ | ⟨S, z, p, hR, hz⟩
  · have HR := Lib.hid hR
    have HSl := Lib.hid hSl
    have HG := Lib.hid hG
    have Hla := Lib.hid (ofS_la hR)
    have Hlen := Lib.hid (show S.l.length = n by rw [hSl]; exact h.len)
    have Hwf := Lib.hid (show ∀ e ∈ S.l, e.wf by rw [hSl]; exact h.wf)
    have hmm : m ≤ 3518437208884 := by omega
    clear hR hSl hG
    go_enter Try.func12, Try.ntmps12
    go_wp2_with fail
    refine (awake_calls _).mono ?_
    rintro e w1 ⟨rfl, hb⟩
    have HB1 := Lib.hid hb
    clear hb
    go_wp2_with fail
    refine (rof_ok (h.below HB1.out) HR.out).mono ?_
    rintro e w2 ⟨rfl, hb⟩
    have HB2 := Lib.hid (HB1.out.trans (hb.mono HB1.out.size))
    clear hb
    go_wp2_with (refine wpList_store_row rfl 34 (.tmp 6) (.tmp 24) rfl w2.heap.size (stArr S.st S.ow) rfl rfl 34 #[.int .i64 0, .int .i64 0, .int .i64 0, .int .i64 0, .int .i64 0, .int .i64 0, .int .i64 0, .int .i64 0, .int .i64 0, .int .i64 0, .int .i64 0, .int .i64 0, .int .i64 0, .int .i64 0, .int .i64 0, .int .i64 0] (MapKept.heap_alloc w2 _).1 infoState rfl (stArr_one _ _) ?_)
    have hrow := row_made w2 #[.int .i64 0, .int .i64 0, .int .i64 0, .int .i64 0, .int .i64 0, .int .i64 0, .int .i64 0, .int .i64 0, .int .i64 0, .int .i64 0, .int .i64 0, .int .i64 0, .int .i64 0, .int .i64 0, .int .i64 0, .int .i64 0] (stArr S.st S.ow) 34
    have hlt := row_lt w2 #[.int .i64 0, .int .i64 0, .int .i64 0, .int .i64 0, .int .i64 0, .int .i64 0, .int .i64 0, .int .i64 0, .int .i64 0, .int .i64 0, .int .i64 0, .int .i64 0, .int .i64 0, .int .i64 0, .int .i64 0, .int .i64 0] (stArr S.st S.ow) 34
    revert hrow hlt
    generalize ((w2.alloc (.cells #[.int .i64 0, .int .i64 0, .int .i64 0, .int .i64 0, .int .i64 0, .int .i64 0, .int .i64 0, .int .i64 0, .int .i64 0, .int .i64 0, .int .i64 0, .int .i64 0, .int .i64 0, .int .i64 0, .int .i64 0, .int .i64 0] 34)).setRow w2.heap.size (stArr S.st S.ow)) = w3
    rintro ⟨hT, hb⟩ hlt
    have hT : StateAt w3 w2.heap.size S := hT
    have HB3 := Lib.hid (HB2.out.trans (hb.mono HB2.out.size))
    have HT3 := Lib.hid hT
    have hbs : w.heap.size ≤ w2.heap.size := HB2.out.size
    clear hb hT
    generalize w2.heap.size = bs at *
    refine (lof_ok (h.below HB3.out) (by omega) HR.out).mono ?_
    rintro e w4 ⟨b, vl, va, rfl, hL, hb⟩
    have H4 := Lib.hid (And.intro hL (And.intro (HT3.out.below hb) (HB3.out.trans (hb.mono HB3.out.size))))
    have hlt4 : bs < w4.heap.size := Nat.lt_of_lt_of_le hlt hb.size
    have hw4 : w.heap.size ≤ w4.heap.size := Nat.le_trans HB3.out.size hb.size
    have Hrl := Lib.hid hL.rlt
    clear hb hL HT3
    generalize w3.heap.size = B at *
    go_wp2_with fail
    refine (lcopy_calls H4.out.1 (by rw [Hlen.out]; omega)).mono ?_
    rintro e w5 ⟨b', vl', va', rfl, hM, hb⟩
    have H5 := Lib.hid (And.intro (H4.out.1.below hb) (And.intro (H4.out.2.1.below hb) (And.intro (H4.out.2.2.trans (hb.mono H4.out.2.2.size)) hM)))
    have hs45 : w4.heap.size ≤ w5.heap.size := hb.size
    clear hb hM H4
    generalize w4.heap.size = Bc at *
    have hrow := row_made w5 #[.int .i64 0, .int .i64 0, .int .i64 0, .int .i64 0, .int .i64 0, .int .i64 0, .int .i64 0, .int .i64 0, .int .i64 0, .int .i64 0, .int .i64 0, .int .i64 0, .int .i64 0, .int .i64 0, .int .i64 0, .int .i64 0] (stArr S.st S.ow) 34
    have hsz : ((w5.alloc (.cells #[.int .i64 0, .int .i64 0, .int .i64 0, .int .i64 0, .int .i64 0, .int .i64 0, .int .i64 0, .int .i64 0, .int .i64 0, .int .i64 0, .int .i64 0, .int .i64 0, .int .i64 0, .int .i64 0, .int .i64 0, .int .i64 0] 34)).setRow w5.heap.size (stArr S.st S.ow)).heap.size = w5.heap.size + 1 := by simp
    have hA : Below w5.heap.size w5 (((w5.alloc (.cells #[.int .i64 0, .int .i64 0, .int .i64 0, .int .i64 0, .int .i64 0, .int .i64 0, .int .i64 0, .int .i64 0, .int .i64 0, .int .i64 0, .int .i64 0, .int .i64 0, .int .i64 0, .int .i64 0, .int .i64 0, .int .i64 0] 34)).setRow w5.heap.size (stArr S.st S.ow)).alloc (.cells #[] 23)) := hrow.2.trans (((Below.refl _ ((w5.alloc (.cells #[.int .i64 0, .int .i64 0, .int .i64 0, .int .i64 0, .int .i64 0, .int .i64 0, .int .i64 0, .int .i64 0, .int .i64 0, .int .i64 0, .int .i64 0, .int .i64 0, .int .i64 0, .int .i64 0, .int .i64 0, .int .i64 0] 34)).setRow w5.heap.size (stArr S.st S.ow))).alloc (Nat.le_refl _) _).mono (by rw [hsz]; omega))
    have hI := (h.below H5.out.2.2.1).below hA
    have hown : (((w5.alloc (.cells #[.int .i64 0, .int .i64 0, .int .i64 0, .int .i64 0, .int .i64 0, .int .i64 0, .int .i64 0, .int .i64 0, .int .i64 0, .int .i64 0, .int .i64 0, .int .i64 0, .int .i64 0, .int .i64 0, .int .i64 0, .int .i64 0] 34)).setRow w5.heap.size (stArr S.st S.ow)).alloc (.cells #[] 23)).ownsRow (w5.heap.size + 1) 23 5 (.slice (some ⟨w5.heap.size + 1, 0, none⟩) 0 0) 0 [] := by
      rw [← hsz]; exact World.ownsRow_made _ #[] 0 (Nat.le_refl _) (Nat.zero_le _) rfl
    have hT : StateAt (((w5.alloc (.cells #[.int .i64 0, .int .i64 0, .int .i64 0, .int .i64 0, .int .i64 0, .int .i64 0, .int .i64 0, .int .i64 0, .int .i64 0, .int .i64 0, .int .i64 0, .int .i64 0, .int .i64 0, .int .i64 0, .int .i64 0, .int .i64 0] 34)).setRow w5.heap.size (stArr S.st S.ow)).alloc (.cells #[] 23)) w5.heap.size S := by
      have h1 : StateAt ((w5.alloc (.cells #[.int .i64 0, .int .i64 0, .int .i64 0, .int .i64 0, .int .i64 0, .int .i64 0, .int .i64 0, .int .i64 0, .int .i64 0, .int .i64 0, .int .i64 0, .int .i64 0, .int .i64 0, .int .i64 0, .int .i64 0, .int .i64 0] 34)).setRow w5.heap.size (stArr S.st S.ow)) w5.heap.size S := hrow.1
      exact h1.below ((Below.refl _ _).alloc (Nat.le_refl _) _)
    have hle : w5.heap.size + 1 ≤ (((w5.alloc (.cells #[.int .i64 0, .int .i64 0, .int .i64 0, .int .i64 0, .int .i64 0, .int .i64 0, .int .i64 0, .int .i64 0, .int .i64 0, .int .i64 0, .int .i64 0, .int .i64 0, .int .i64 0, .int .i64 0, .int .i64 0, .int .i64 0] 34)).setRow w5.heap.size (stArr S.st S.ow)).alloc (.cells #[] 23)).heap.size := by simp
    have HP := Lib.hid (And.intro hI (And.intro hown (And.intro hT (And.intro hA hle))))
    clear hrow hsz hA hI hown hT hle
    go_wp2_with (first | (refine wpList_load_row rfl 34 (.tmp 6) rfl bs rfl 34 (stArr S.st S.ow) (0, 0) _ H5.out.2.1 Try.underlying34 rfl (by kernel_rfl) ?_) | (refine wpList_store_row rfl 34 (.tmp 13) (.tmp 42) rfl w5.heap.size (stArr S.st S.ow) rfl rfl 34 #[.int .i64 0, .int .i64 0, .int .i64 0, .int .i64 0, .int .i64 0, .int .i64 0, .int .i64 0, .int .i64 0, .int .i64 0, .int .i64 0, .int .i64 0, .int .i64 0, .int .i64 0, .int .i64 0, .int .i64 0, .int .i64 0] (MapKept.heap_alloc w5 _).1 infoState rfl (stArr_one _ _) ?_) | (at_builtin; go_loud (refine wpList_append_evs HP.out.1 rfl (.tmp 43) (.tmp 44) rfl (w5.heap.size + 1) _ rfl HP.out.2.1 rfl (by omega) HP.out.2.2.2.2 hc0 ?_); intro v w7 hown hg))
    have hb57 : Below w5.heap.size w5 w7 := HP.out.2.2.2.1.grown hg (by have := HP.out.2.2.2.2; omega) (fun q hq => by cases hq; exact Nat.le_succ _)
    have hW : Wrote (fun q => q = w5.heap.size + 1) _ w7 := Wrote.of_grown hg (fun q hq => by cases hq; rfl)
    have hI7 : AddsInv w7 Bc b' w5.heap.size vl' va' v S :=
      ⟨H5.out.2.2.2.below hb57, HP.out.2.2.1.wrote hW (by omega), HG.out, Hla.out, Hwf.out, by rw [Hlen.out, HSl.out]; exact own_low hown (by omega),
        fun g hgv hq => by have h1 := (hown.lt g hgv).1; have h2 := H5.out.2.2.2.rlt g hq; omega, by omega⟩
    have HI7 := Lib.hid hI7
    have H7 := Lib.hid (And.intro (H5.out.1.below hb57) (And.intro (H5.out.2.1.below hb57) (H5.out.2.2.1.trans (hb57.mono H5.out.2.2.1.size))))
    have hs7 : Bc ≤ w7.heap.size := Nat.le_trans hs45 hb57.size
    clear hb57 hW hI7 hown hg HP H5
    generalize w5.heap.size = bt at *
    obtain ⟨i0, hi, hz0, hz1, hz2⟩ := info_parts infoEv
    have Hi := Lib.hid hi
    have Hz0 := Lib.hid hz0
    have Hz1 := Lib.hid hz1
    have Hz2 := Lib.hid hz2
    clear hi hz0 hz1 hz2
    go_loopw [14, 15] (fun u v wr => ∃ (k : Nat) (T : LogS) (vlk vak : Value), k ≤ m ∧ v = .int .i64 k ∧ Hid (AddsInv wr Bc b' bt vlk vak u T ∧ T.l.length ≤ n + k ∧ Below Bc w7 wr)) (fun _ v _ => m - (intOf v).toNat)
    case atStart => exact ⟨0, S, _, _, Nat.zero_le _, rfl, ⟨HI7.out, by rw [Hlen.out]; omega, Below.refl _ _⟩⟩
    case round =>
      clear HI7
      obtain ⟨k, T, vlk, vak, hk, rfl, H⟩ := hrel
      by_cases hlt : k < m
      · obtain ⟨bx, off, x, rfl, hx, hxw, c0, c1, c2, c3, c4⟩ := h'.at hlt
        have HC := Lib.hid (And.intro c0 (And.intro c1 (And.intro c2 (And.intro c3 c4))))
        have Hxw := Lib.hid hxw
        clear hx hxw c0 c1 c2 c3 c4
        have HBr := Lib.hid (H7.out.2.2.trans (H.out.2.2.mono (by omega : w.heap.size ≤ Bc)))
        have d0 := keep HBr.out HC.out.1
        have d1 := keep HBr.out HC.out.2.1
        have d2 := keep HBr.out HC.out.2.2.1
        have d3 := keep HBr.out HC.out.2.2.2.1
        have d4 := keep HBr.out HC.out.2.2.2.2
        have hsr := H.out.2.2.size
        go_wp2_with fail
        refine (add_calls H.out.1.log x (by have := H.out.2.1; omega)).mono ?_
        rintro e z2 ⟨vl2, va2, rfl, hL, hW, hsub⟩
        have hb2 : Below Bc _ z2 := Wrote.below (Below.refl Bc _) hW (by omega) (fun q hq => H.out.1.log.base q hq)
        have HB2' := Lib.hid (HBr.out.trans (hb2.mono (by omega : w.heap.size ≤ Bc)))
        have HBc := Lib.hid (H.out.2.2.trans hb2)
        have HP := Lib.hid (And.intro hL (And.intro hW hsub))
        have HS2 := Lib.hid (H.out.1.st.wrote hW (state_ne H.out.1.log H.out.1.st))
        clear hL hW hsub d0 d1 d2 d3 d4 hb2
        have d0 := keep HB2'.out HC.out.1
        have d1 := keep HB2'.out HC.out.2.1
        have d2 := keep HB2'.out HC.out.2.2.1
        have d3 := keep HB2'.out HC.out.2.2.2.1
        have d4 := keep HB2'.out HC.out.2.2.2.2
        go_wp2_with fail
        refine (sadd_calls HS2.out H.out.1.good x).mono ?_
        rintro e z3 ⟨rfl, hT3, hM3⟩
        have HM := Lib.hid (AddsInv.mid H.out.1 HP.out.1 HP.out.2.1 HP.out.2.2 hT3 hM3)
        have HB3' := Lib.hid (below_of_mod HB2'.out hM3 HB2'.out.size (by have := H.out.1.bsB; omega))
        have HBc3 := Lib.hid (below_of_mod HBc.out hM3 (by have := HBc.out.size; omega) H.out.1.bsB)
        have hlen := H.out.2.1
        clear hT3 hM3 HP HS2 HB2' d0 d1 d2 d3 d4 H HBc HBr hsr
        have d0 := keep HB3'.out HC.out.1
        have d1 := keep HB3'.out HC.out.2.1
        have d2 := keep HB3'.out HC.out.2.2.1
        have d3 := keep HB3'.out HC.out.2.2.2.1
        have d4 := keep HB3'.out HC.out.2.2.2.2
        by_cases hz : addE T x = 0
        · have Hz := Lib.hid hz
          rw [hz]
          clear hz
          have hA : Below z3.heap.size z3 (z3.alloc (.cells #[.int .i64 x.t, .int .i64 x.k, .int .i64 x.o, .int .i64 x.v, .int .i64 x.b] 23)) := (Below.refl _ z3).alloc (Nat.le_refl _) _
          have hN : ∀ j u, x.vals[j]? = some u → (z3.alloc (.cells #[.int .i64 x.t, .int .i64 x.k, .int .i64 x.o, .int .i64 x.v, .int .i64 x.b] 23)).cell? ((⟨z3.heap.size, 0, none⟩ : Addr).add j) = some u := fun j u hj => cells_new z3 _ _ j u hj
          have HN := Lib.hid hN
          have HA := Lib.hid (And.intro (HM.out.below hA) (HBc3.out.trans (hA.mono (by have := HBc3.out.size; omega))))
          clear hA hN
          go_wp2_with (at_builtin; go_loud (refine wpList_append_at _ rfl (.tmp 68) (.tmp 73) 24 rfl Bc 23 i0 (.agg #[.int .i64 0, .int .i64 0, .int .i64 0, .int .i64 0, .int .i64 0]) 5 40 Try.underlying24 Hi.out Hz0.out Hz1.out Hz2.out rfl (by decide) _ T.l.length (evCells T.l) rfl HA.out.1.own ⟨z3.heap.size, 0, none⟩ 1 1 x.vals rfl rfl HN.out (vals_one x) (by unfold maxLen; omega) (by omega) (by have := HA.out.1.log.lt; have := HA.out.1.log.low; omega) ?_); intro v2 z4 hown hg hnl hv; clear hnl; have hR := HA.out.1.yes Hz.out Hxw.out hown hg hv; have HBz := Lib.hid (HA.out.2.grown hg (by have := HA.out.2.size; omega) (fun q hq => (HA.out.1.own.lt q hq).1)); have HR := Lib.hid hR; clear hown hg hv hR)
          go_roundw
          case rel => exact ⟨k + 1, addS T x, vl2, va2, by omega, by go_num, HR.out, Nat.le_trans (addS_len T x) (by omega), HBz.out⟩
          case measure => simp [intOf]; omega
        · have Hno := Lib.hid (HM.out.no hz)
          have hz' : (addE T x == 0) = false := by simpa using hz
          clear hz HM
          generalize addE T x = q at *
          go_wp2
          go_roundw
          case rel => exact ⟨k + 1, T, vl2, va2, by omega, by go_num, Hno.out, by omega, HBc3.out⟩
          case measure => simp [intOf]; omega
      · obtain ⟨a, c', rfl, hK⟩ := evs_own H.out.1.own H.out.1.wf
        have hlenT := H.out.2.1
        have HB8 := Lib.hid (H7.out.2.2.trans (H.out.2.2.mono (by omega : w.heap.size ≤ Bc)))
        have hL8 := H7.out.1.under (Bc := Bc) (fun q hq => Hrl.out q hq) H.out.2.2
        have hT8 := H7.out.2.1.frame (H.out.2.2.block _ hlt4)
        have H8 := Lib.hid (And.intro hL8 (And.intro hT8 (And.intro H.out.1 hK)))
        clear hL8 hT8 hK H7 H
        go_wp2_with (refine wpList_load_row rfl 34 (.tmp 6) rfl bs rfl 34 (stArr S.st S.ow) (0, 0) _ H8.out.2.1 Try.underlying34 rfl (by kernel_rfl) ?_)
        refine (same_calls H8.out.1 (by rw [HSl.out]; exact h.below HB8.out) Hla.out (by omega)).mono ?_
        rintro e z2 ⟨rfl, hb⟩
        have H9 := Lib.hid (And.intro (H8.out.2.2.1.below hb) (And.intro (H8.out.2.2.2.below hb) (HB8.out.trans (hb.mono HB8.out.size))))
        clear hb H8 HB8
        go_wp2_with (refine wpList_load_row rfl 34 (.tmp 13) rfl bt rfl 34 (stArr T.st T.ow) (0, 0) _ H9.out.1.st Try.underlying34 rfl (by kernel_rfl) ?_)
        refine (same_calls H9.out.1.log H9.out.2.1 H9.out.1.la (by omega)).mono ?_
        rintro e z3 ⟨rfl, hb⟩
        have HF := Lib.hid (H9.out.2.2.trans (hb.mono H9.out.2.2.size))
        clear hb H9
        go_wp2
        go_ret
        exact ⟨rfl, HF.out⟩
  · have HR := Lib.hid hR
    have Hz := Lib.hid hz
    have hz' : (z != 0) = true := by simpa [bne] using hz
    clear hR hz
    go_enter Try.func12, Try.ntmps12
    go_wp2_with fail
    refine (awake_calls _).mono ?_
    rintro e w1 ⟨rfl, hb⟩
    have HB1 := Lib.hid hb
    clear hb
    go_wp2_with fail
    refine (rof_no (h.below HB1.out) HR.out Hz.out).mono ?_
    rintro e w2 ⟨rfl, hb⟩
    have HB2 := Lib.hid (HB1.out.trans (hb.mono HB1.out.size))
    clear hb
    go_wp2_with (refine wpList_store_row rfl 34 (.tmp 6) (.tmp 24) rfl w2.heap.size zArr rfl rfl 34 #[.int .i64 0, .int .i64 0, .int .i64 0, .int .i64 0, .int .i64 0, .int .i64 0, .int .i64 0, .int .i64 0, .int .i64 0, .int .i64 0, .int .i64 0, .int .i64 0, .int .i64 0, .int .i64 0, .int .i64 0, .int .i64 0] (MapKept.heap_alloc w2 _).1 infoState rfl zArr_one ?_)
    go_ret
    exact ⟨rfl, HB2.out.trans ((row_made w2 #[.int .i64 0, .int .i64 0, .int .i64 0, .int .i64 0, .int .i64 0, .int .i64 0, .int .i64 0, .int .i64 0, .int .i64 0, .int .i64 0, .int .i64 0, .int .i64 0, .int .i64 0, .int .i64 0, .int .i64 0, .int .i64 0] zArr 34).2.mono HB2.out.size)⟩
end Go.Proofs.Ytejcpjhepkhihaa
