/-
  EventExchanges: the walk.
-/
import Derived.Test.YtejcpjhepkhihaaEvRow
import Derived.BigRegion
set_option linter.unusedSimpArgs false
set_option linter.unusedVariables false
namespace Go.Proofs.Ytejcpjhepkhihaa
open Go.ChangeShapes Go.WideShapes Go.ChangeAt Go.RowKit Go.Deep

theorem evs_cells {w : World} {b off n c : Nat} {l : List Ev} {t : TypeId} (h : IsEvs w (some ⟨b, off, none⟩) n c l) (h1 : 1 ≤ n) : ∀ j u, (evCells l)[j]? = some u → (w.alloc (.cells #[] t)).cell? ((⟨b, off, none⟩ : Addr).add j) = some u := by
  obtain ⟨b2, off2, he, hc⟩ := h.reads.2 (by omega)
  cases he
  intro j u hu
  have h2 := hc j u hu
  have h3 : (w.alloc (.cells #[] t)).cell? ⟨b, off + j, none⟩ = some u := keep ((Below.refl _ _).alloc (Nat.le_refl _) _) h2
  unfold Addr.add
  split
  · rename_i h0; subst h0; exact h3
  · exact h3
theorem own_free {w : World} {B g n cap : Nat} {e : TypeId} {size : Nat} {xs : List Value} (h : w.ownsRow B e size (.slice (some ⟨g, 0, none⟩) n cap) n xs) (o : Nat) : w.frozen? ⟨g, o, none⟩ = false := by
  obtain ⟨cur, hc⟩ := own_obj h rfl
  simp [World.frozen?, hc]
theorem own_ev {w : World} {B g n cap : Nat} {l : List Ev} (h : w.ownsRow B 23 5 (.slice (some ⟨g, 0, none⟩) n cap) n (evCells l)) {i : Nat} {e : Ev} (hx : l[i]? = some e) :
    w.cell? ⟨g, i * 5, none⟩ = some (.int .i64 e.t) ∧ w.cell? ⟨g, i * 5 + 1, none⟩ = some (.int .i64 e.k) ∧ w.cell? ⟨g, i * 5 + 2, none⟩ = some (.int .i64 e.o) ∧ w.cell? ⟨g, i * 5 + 3, none⟩ = some (.int .i64 e.v) ∧ w.cell? ⟨g, i * 5 + 4, none⟩ = some (.int .i64 e.b) := by
  have hc := h.cells (g := g) rfl
  have ad : ∀ j, (⟨g, 0, none⟩ : Addr).add j = ⟨g, j, none⟩ := fun j => by
    unfold Addr.add
    split
    · rename_i h0; subst h0; rfl
    · simp
  have gg := fun j (hj : j < 5) => flat_get Ev.vals 5 (fun _ => rfl) l i j e hx hj
  have t0 := hc _ (.int .i64 e.t) (gg 0 (by decide))
  have t1 := hc _ (.int .i64 e.k) (gg 1 (by decide))
  have t2 := hc _ (.int .i64 e.o) (gg 2 (by decide))
  have t3 := hc _ (.int .i64 e.v) (gg 3 (by decide))
  have t4 := hc _ (.int .i64 e.b) (gg 4 (by decide))
  rw [ad] at t0 t1 t2 t3 t4
  exact ⟨t0, t1, t2, t3, t4⟩
theorem cells_one (l : List Ev) : ∀ u ∈ evCells l, u.oneCell' = true := by
  intro u hu
  simp only [evCells, List.mem_flatMap] at hu
  obtain ⟨e, _, he⟩ := hu
  exact vals_one e u he

set_option maxRecDepth 20000 in
set_option maxHeartbeats 4000000 in
theorem exch_early {w : World} {a0 : Option Addr} {n c : Nat} {l : List Ev} (h : IsEvs w a0 n c l) (i : Int) (he : (∃ S z p, ofS l = (S, z, p) ∧ z ≠ 0) ∨ (∃ S, ofS l = (S, 0, 0)) ∧ (i < 0 ∨ (n : Int) - 1 ≤ i)) :
    Calls Try.prog 14 #[.slice a0 n c, .int .i64 i] w fun e w' => e = .returned (.bool true) ∧ Below w.heap.size w w' := by
  have hnm : n ≤ 9223372036854775807 := by have := h.le; have := h.cap; unfold maxLen at *; omega
  rcases he with ⟨S, z, p, hR, hz⟩ | ⟨⟨S, hR⟩, hi⟩
  · have HR := Lib.hid hR
    have Hz := Lib.hid hz
    have hz' : (z != 0) = true := by simpa [bne] using hz
    clear hR hz
    go_enter Try.func14, Try.ntmps14
    go_wp2_with fail
    refine (awake_calls _).mono ?_
    rintro e w1 ⟨rfl, hb⟩
    have HB1 := Lib.hid hb
    clear hb
    go_wp2_with fail
    refine (rof_no (h.below HB1.out) HR.out Hz.out).mono ?_
    rintro e w2 ⟨rfl, hb⟩
    have HB2 := Lib.hid (HB1.out.trans (hb.mono HB1.out.size))
    clear hb
    go_wp2_with (refine wpList_store_row rfl 34 (.tmp 6) (.tmp 26) rfl w2.heap.size zArr rfl rfl 34 #[.int .i64 0, .int .i64 0, .int .i64 0, .int .i64 0, .int .i64 0, .int .i64 0, .int .i64 0, .int .i64 0, .int .i64 0, .int .i64 0, .int .i64 0, .int .i64 0, .int .i64 0, .int .i64 0, .int .i64 0, .int .i64 0] (MapKept.heap_alloc w2 _).1 infoState rfl zArr_one ?_)
    go_ret
    exact ⟨rfl, HB2.out.trans ((row_made w2 #[.int .i64 0, .int .i64 0, .int .i64 0, .int .i64 0, .int .i64 0, .int .i64 0, .int .i64 0, .int .i64 0, .int .i64 0, .int .i64 0, .int .i64 0, .int .i64 0, .int .i64 0, .int .i64 0, .int .i64 0, .int .i64 0] zArr 34).2.mono HB2.out.size)⟩
  · have HR := Lib.hid hR
    clear hR
    by_cases hi0 : i < 0
    · clear hi
      go_enter Try.func14, Try.ntmps14
      go_wp2_with fail
      refine (awake_calls _).mono ?_
      rintro e w1 ⟨rfl, hb⟩
      have HB1 := Lib.hid hb
      clear hb
      go_wp2_with fail
      refine (rof_ok (h.below HB1.out) HR.out).mono ?_
      rintro e w2 ⟨rfl, hb⟩
      have HB2 := Lib.hid (HB1.out.trans (hb.mono HB1.out.size))
      clear hb
      go_wp2_with (refine wpList_store_row rfl 34 (.tmp 6) (.tmp 26) rfl w2.heap.size (stArr S.st S.ow) rfl rfl 34 #[.int .i64 0, .int .i64 0, .int .i64 0, .int .i64 0, .int .i64 0, .int .i64 0, .int .i64 0, .int .i64 0, .int .i64 0, .int .i64 0, .int .i64 0, .int .i64 0, .int .i64 0, .int .i64 0, .int .i64 0, .int .i64 0] (MapKept.heap_alloc w2 _).1 infoState rfl (stArr_one _ _) ?_)
      go_ret
      exact ⟨rfl, HB2.out.trans ((row_made w2 #[.int .i64 0, .int .i64 0, .int .i64 0, .int .i64 0, .int .i64 0, .int .i64 0, .int .i64 0, .int .i64 0, .int .i64 0, .int .i64 0, .int .i64 0, .int .i64 0, .int .i64 0, .int .i64 0, .int .i64 0, .int .i64 0] (stArr S.st S.ow) 34).2.mono HB2.out.size)⟩
    · have hi1 : (n : Int) - 1 ≤ i := by omega
      clear hi
      go_enter Try.func14, Try.ntmps14
      go_wp2_with fail
      refine (awake_calls _).mono ?_
      rintro e w1 ⟨rfl, hb⟩
      have HB1 := Lib.hid hb
      clear hb
      go_wp2_with fail
      refine (rof_ok (h.below HB1.out) HR.out).mono ?_
      rintro e w2 ⟨rfl, hb⟩
      have HB2 := Lib.hid (HB1.out.trans (hb.mono HB1.out.size))
      clear hb
      go_wp2_with (refine wpList_store_row rfl 34 (.tmp 6) (.tmp 26) rfl w2.heap.size (stArr S.st S.ow) rfl rfl 34 #[.int .i64 0, .int .i64 0, .int .i64 0, .int .i64 0, .int .i64 0, .int .i64 0, .int .i64 0, .int .i64 0, .int .i64 0, .int .i64 0, .int .i64 0, .int .i64 0, .int .i64 0, .int .i64 0, .int .i64 0, .int .i64 0] (MapKept.heap_alloc w2 _).1 infoState rfl (stArr_one _ _) ?_)
      go_ret
      exact ⟨rfl, HB2.out.trans ((row_made w2 #[.int .i64 0, .int .i64 0, .int .i64 0, .int .i64 0, .int .i64 0, .int .i64 0, .int .i64 0, .int .i64 0, .int .i64 0, .int .i64 0, .int .i64 0, .int .i64 0, .int .i64 0, .int .i64 0, .int .i64 0, .int .i64 0] (stArr S.st S.ow) 34).2.mono HB2.out.size)⟩

set_option maxRecDepth 20000 in
set_option maxHeartbeats 8000000 in
theorem exch_main {w : World} {a0 : Option Addr} {n c : Nat} {l : List Ev} {S : LogS} (h : IsEvs w a0 n c l) (hcap : n * 40 ≤ 140737488355328) (hR : ofS l = (S, 0, 0)) (hSl : S.l = l) {k : Nat} (hk : k + 1 < n) :
    Calls Try.prog 14 #[.slice a0 n c, .int .i64 k] w fun e w' => e = .returned (.bool true) ∧ Below w.heap.size w w' := by
  have hnm : n ≤ 9223372036854775807 := by have := h.le; have := h.cap; unfold maxLen at *; omega
  have Hl := Lib.hid h.len
  obtain ⟨b0, off, x, rfl, hx, _, c0, c1, c2, c3, c4⟩ := h.at (show k < n by omega)
  obtain ⟨b0', off', y, he, hy, _, d0, d1, d2, d3, d4⟩ := h.at hk
  cases he
  have C := Lib.hid (And.intro c0 (And.intro c1 (And.intro c2 (And.intro c3 (And.intro c4 (And.intro d0 (And.intro d1 (And.intro d2 (And.intro d3 d4)))))))))
  have hplain : dependsB x.t x.k x.o y.t y.k y.o = false → ∃ T, ofS (swapAt l k x y) = (T, 0, 0) ∧ Like S T := exch_of hR hx hy
  have Hplain := Lib.hid hplain
  have HR := Lib.hid hR
  have HSl := Lib.hid hSl
  have Hxy := Lib.hid (And.intro hx hy)
  have H := Lib.hid h
  have hwf := h.wf
  have Hwf := Lib.hid hwf
  clear c0 c1 c2 c3 c4 d0 d1 d2 d3 d4 hplain hR hSl hx hy hwf
  go_enter Try.func14, Try.ntmps14
  go_wp2_with fail
  refine (awake_calls _).mono ?_
  rintro e w1 ⟨rfl, hb⟩
  have HB1 := Lib.hid hb
  clear hb
  go_wp2_with fail
  refine (rof_ok (h.below HB1.out) HR.out).mono ?_
  rintro e w2 ⟨rfl, hb⟩
  have HB2 := Lib.hid (HB1.out.trans (hb.mono HB1.out.size))
  clear hb
  go_wp2_with (refine wpList_store_row rfl 34 (.tmp 6) (.tmp 26) rfl w2.heap.size (stArr S.st S.ow) rfl rfl 34 #[.int .i64 0, .int .i64 0, .int .i64 0, .int .i64 0, .int .i64 0, .int .i64 0, .int .i64 0, .int .i64 0, .int .i64 0, .int .i64 0, .int .i64 0, .int .i64 0, .int .i64 0, .int .i64 0, .int .i64 0, .int .i64 0] (MapKept.heap_alloc w2 _).1 infoState rfl (stArr_one _ _) ?_)
  have hrow := (row_made w2 #[.int .i64 0, .int .i64 0, .int .i64 0, .int .i64 0, .int .i64 0, .int .i64 0, .int .i64 0, .int .i64 0, .int .i64 0, .int .i64 0, .int .i64 0, .int .i64 0, .int .i64 0, .int .i64 0, .int .i64 0, .int .i64 0] (stArr S.st S.ow) 34).2
  revert hrow
  generalize ((w2.alloc (.cells #[.int .i64 0, .int .i64 0, .int .i64 0, .int .i64 0, .int .i64 0, .int .i64 0, .int .i64 0, .int .i64 0, .int .i64 0, .int .i64 0, .int .i64 0, .int .i64 0, .int .i64 0, .int .i64 0, .int .i64 0, .int .i64 0] 34)).setRow w2.heap.size (stArr S.st S.ow)) = w3
  intro hb
  have HB3 := Lib.hid (HB2.out.trans (hb.mono HB2.out.size))
  clear hb
  refine (lof_ok (h.below HB3.out) hcap HR.out).mono ?_
  rintro e w4 ⟨b, vl, va, rfl, hL4, hb⟩
  have HB4 := Lib.hid (HB3.out.trans (hb.mono HB3.out.size))
  have HL4 := Lib.hid hL4
  clear hL4 hb
  obtain ⟨c0, c1, c2, c3, c4, d0, d1, d2, d3, d4⟩ := C.out
  have c0 := keep HB4.out c0
  have c1 := keep HB4.out c1
  have c2 := keep HB4.out c2
  have c3 := keep HB4.out c3
  have c4 := keep HB4.out c4
  have d0 := keep HB4.out d0
  have d1 := keep HB4.out d1
  have d2 := keep HB4.out d2
  have d3 := keep HB4.out d3
  have d4 := keep HB4.out d4
  obtain ⟨xt, xk, xo, xv, xb⟩ := x
  obtain ⟨yt, yk, yo, yv, yb⟩ := y
  go_wp2_with fail
  refine wp_ext_draw 11 mixed (by kernel_rfl) ?_
  simp only [List.take_succ_cons, List.take_zero, List.drop_succ_cons, List.drop_zero]
  repeat ((first | ((apply TextRun.go rfl rfl rfl); (intro w1 hS K hK; have hc := bcell hS; have hs := blt hS; have c0 := keep hS c0; have c1 := keep hS c1; have c2 := keep hS c2; have c3 := keep hS c3; have c4 := keep hS c4; have d0 := keep hS d0; have d1 := keep hS d1; have d2 := keep hS d2; have d3 := keep hS d3; have d4 := keep hS d4; go_wp2_with ((go_at_call 21; refine (depends_calls _ _ _ _ _ _ _ _ _ _ _).mono ?_; rintro e w' ⟨rfl, hb⟩)); first | exact hS | exact hS.trans (hb.mono hS.size))) | (refine TextRun.skip rfl ?_) | ((refine TextRun.wantedT rfl rfl rfl ?_); (apply Exists.intro); (apply And.intro); (intro w1 hS K hK; have hc := bcell hS; have hs := blt hS; have c0 := keep hS c0; have c1 := keep hS c1; have c2 := keep hS c2; have c3 := keep hS c3; have c4 := keep hS c4; have d0 := keep hS d0; have d1 := keep hS d1; have d2 := keep hS d2; have d3 := keep hS d3; have d4 := keep hS d4; go_wp2_with ((go_at_call 21; refine (depends_calls _ _ _ _ _ _ _ _ _ _ _).mono ?_; rintro e w' ⟨rfl, hb⟩)); first | exact hS | exact hS.trans (hb.mono hS.size)))); (simp only [Act.put, List.setIfInBounds_toArray, List.set_cons_zero, List.set_cons_succ]))
  refine TextRun.done ?_
  intro w5 hb
  have HB5 := Lib.hid (HB4.out.trans (hb.mono HB4.out.size))
  have HL5 := Lib.hid (HL4.out.below hb)
  have Hrl5 := Lib.hid HL5.out.rlt
  clear hb c0 c1 c2 c3 c4 d0 d1 d2 d3 d4 HL4
  revert Hplain
  generalize dependsB xt xk xo yt yk yo = dd
  intro Hplain
  cases dd
  · obtain ⟨T, hT, hlike⟩ := Hplain.out rfl
    have HT := Lib.hid hT
    have Hlike := Lib.hid hlike
    clear Hplain hT hlike
    obtain ⟨i0, hi, hz0, hz1, hz2⟩ := info_parts infoEv
    have Hi := Lib.hid hi
    have Hz0 := Lib.hid hz0
    have Hz1 := Lib.hid hz1
    have Hz2 := Lib.hid hz2
    have Hn := Lib.hid (evs_cells (t := 23) (H.out.below HB5.out) (by omega))
    clear hi hz0 hz1 hz2 h
    go_wp2_with (at_builtin; go_loud (refine wpList_append_own _ rfl (.tmp 63) (.tmp 64) 24 rfl w5.heap.size 23 i0 (.agg #[.int .i64 0, .int .i64 0, .int .i64 0, .int .i64 0, .int .i64 0]) 5 40 Try.underlying24 Hi.out Hz0.out Hz1.out Hz2.out rfl (by decide) _ 0 [] rfl (World.ownsRow_made w5 #[] 0 (Nat.le_refl _) (Nat.zero_le _) rfl) ⟨b0, off, none⟩ n c (evCells l) rfl (by rw [evCells, flat_len Ev.vals 5 (fun _ => rfl), Hl.out]) Hn.out (cells_one l) (by unfold maxLen; omega) (by omega) (by simp) ?_); intro v' w6 hown hg hnl; clear hnl)
    obtain ⟨g, cap, rfl⟩ := own_slice hown (by omega)
    have hown' : w6.ownsRow w5.heap.size 23 5 (.slice (some ⟨g, 0, none⟩) n cap) n (evCells l) := by simpa using hown
    have hb6 : Below w5.heap.size w5 w6 := ((Below.refl _ _).alloc (Nat.le_refl _) _).grown hg (by simp) (fun k hk => by cases hk; exact Nat.le_refl _)
    have HB6 := Lib.hid (HB5.out.trans (hb6.mono HB5.out.size))
    have HL6 := Lib.hid (HL5.out.below hb6)
    have hgb : w5.heap.size ≤ g := (hown'.lt g rfl).1
    have hfr := own_free hown'
    obtain ⟨c0, c1, c2, c3, c4⟩ := own_ev hown' Hxy.out.1
    obtain ⟨d0, d1, d2, d3, d4⟩ := own_ev hown' Hxy.out.2
    have HO := Lib.hid hown'
    clear hown hown' hg hb6 HL5
    go_wp2_with fail
    go_region
    have hO3 := own_swap HO.out k (by have := Hl.out; omega) xt xk xo xv xb yt yk yo yv yb
    have hW7 := wrote_swap w6 g (k * 5) ((k + 1) * 5) (.int .i64 yt) (.int .i64 yk) (.int .i64 yo) (.int .i64 yv) (.int .i64 yb) (.int .i64 xt) (.int .i64 xk) (.int .i64 xo) (.int .i64 xv) (.int .i64 xb)
    clear HO c0 c1 c2 c3 c4 d0 d1 d2 d3 d4 hfr
    revert hO3 hW7
    generalize ((((((((((w6.setCell ⟨g, k * 5, none⟩ (.int .i64 yt)).setCell ⟨g, k * 5 + 1, none⟩ (.int .i64 yk)).setCell ⟨g, k * 5 + 2, none⟩ (.int .i64 yo)).setCell ⟨g, k * 5 + 3, none⟩ (.int .i64 yv)).setCell ⟨g, k * 5 + 4, none⟩ (.int .i64 yb)).setCell ⟨g, (k + 1) * 5, none⟩ (.int .i64 xt)).setCell ⟨g, (k + 1) * 5 + 1, none⟩ (.int .i64 xk)).setCell ⟨g, (k + 1) * 5 + 2, none⟩ (.int .i64 xo)).setCell ⟨g, (k + 1) * 5 + 3, none⟩ (.int .i64 xv)).setCell ⟨g, (k + 1) * 5 + 4, none⟩ (.int .i64 xb)).drew = w7
    intro hO3 hW7
    have hwf2 : ∀ e ∈ swapAt l k ⟨xt, xk, xo, xv, xb⟩ ⟨yt, yk, yo, yv, yb⟩, e.wf := fun e he => by
      unfold swapAt at he
      rcases List.mem_or_eq_of_mem_set he with he | rfl
      · rcases List.mem_or_eq_of_mem_set he with he | rfl
        · exact Hwf.out e he
        · exact Hwf.out _ (List.mem_of_getElem? Hxy.out.2)
      · exact Hwf.out _ (List.mem_of_getElem? Hxy.out.1)
    have hI7 := evs_of_own hO3 hwf2
    have hL7 := HL6.out.wrote hW7 (fun q hq e => by have := Hrl5.out q hq; omega)
    have HB7 := Lib.hid (Wrote.below HB6.out hW7 HB6.out.size (fun q hq => by have := HB5.out.size; omega))
    have HI7 := Lib.hid hI7
    have HL7 := Lib.hid hL7
    clear hO3 hW7 hwf2 hI7 hL7 HL6
    go_wp2_with fail
    refine (lof_ok HI7.out hcap HT.out).mono ?_
    rintro e w8 ⟨b', vl', va', rfl, hM8, hb⟩
    have HB8 := Lib.hid (HB7.out.trans (hb.mono HB7.out.size))
    have HL8 := Lib.hid (HL7.out.below hb)
    have HM8 := Lib.hid hM8
    have hst : statB T = statB S := by funext t; unfold statB; rw [Hlike.out.1]
    have how : ownB T = ownB S := by funext t; unfold ownB; rw [Hlike.out.2]
    have Hst := Lib.hid (And.intro hst how)
    clear hM8 hb HL7 HI7 hst how
    go_wp2
    go_loopw [17] (fun v wr => ∃ j : Nat, j ≤ 8 ∧ v = .int .i64 j ∧ Hid (LogAt wr w3.heap.size b vl va S ∧ LogAt wr w7.heap.size b' vl' va' T ∧ Below w.heap.size w wr)) (fun v _ => 8 - (intOf v).toNat)
    case atStart => exact ⟨0, by omega, rfl, ⟨HL8.out, HM8.out, HB8.out⟩⟩
    case round =>
      obtain ⟨j, hj, rfl, Hr⟩ := hrel
      by_cases hlt : j < 8
      · skip
        go_wp2_with fail
        refine (status_calls Hr.out.1 _).mono ?_
        rintro e z1 ⟨rfl, hb⟩
        have Hr := Lib.hid (And.intro (Hr.out.1.below hb) (And.intro (Hr.out.2.1.below hb) (Hr.out.2.2.trans (hb.mono Hr.out.2.2.size))))
        clear hb
        go_wp2_with fail
        refine (status_calls Hr.out.2.1 _).mono ?_
        rintro e z2 ⟨rfl, hb⟩
        rw [Hst.out.1]
        have Hr := Lib.hid (And.intro (Hr.out.1.below hb) (And.intro (Hr.out.2.1.below hb) (Hr.out.2.2.trans (hb.mono Hr.out.2.2.size))))
        clear hb
        go_wp2_with fail
        refine (owner_calls Hr.out.1 _).mono ?_
        rintro e z3 ⟨rfl, hb⟩
        have Hr := Lib.hid (And.intro (Hr.out.1.below hb) (And.intro (Hr.out.2.1.below hb) (Hr.out.2.2.trans (hb.mono Hr.out.2.2.size))))
        clear hb
        go_wp2_with fail
        refine (owner_calls Hr.out.2.1 _).mono ?_
        rintro e z4 ⟨rfl, hb⟩
        rw [Hst.out.2]
        have Hr := Lib.hid (And.intro (Hr.out.1.below hb) (And.intro (Hr.out.2.1.below hb) (Hr.out.2.2.trans (hb.mono Hr.out.2.2.size))))
        clear hb
        generalize statB S j = q1
        generalize ownB S j = q2
        go_wp2
        go_roundw
        case rel => exact ⟨j + 1, by omega, by go_num, Hr.out⟩
        case measure => simp [intOf]; omega
      · have hj8 : j = 8 := by omega
        subst hj8
        go_wp2
        go_ret
        exact ⟨rfl, Hr.out.2.2⟩
  · clear Hplain
    go_wp2
    go_ret
    exact ⟨rfl, HB5.out⟩

theorem exch_law {w : World} {a0 : Option Addr} {n c : Nat} {l : List Ev} (h : IsEvs w a0 n c l) (hcap : n * 40 ≤ 140737488355328) (i : Int) :
    Calls Try.prog 14 #[.slice a0 n c, .int .i64 i] w fun e w' => e = .returned (.bool true) ∧ Below w.heap.size w w' := by
  rcases ofS_cases l with ⟨S, hR, hSl, _⟩ | ⟨S, z, p, hR, hz⟩
  · by_cases hi : i < 0 ∨ (n : Int) - 1 ≤ i
    · exact exch_early h i (.inr ⟨⟨S, hR⟩, hi⟩)
    · obtain ⟨k, rfl⟩ := Int.eq_ofNat_of_zero_le (show 0 ≤ i by omega)
      exact exch_main h hcap hR hSl (by omega)
  · exact exch_early h i (.inl ⟨S, z, p, hR, hz⟩)
end Go.Proofs.Ytejcpjhepkhihaa
