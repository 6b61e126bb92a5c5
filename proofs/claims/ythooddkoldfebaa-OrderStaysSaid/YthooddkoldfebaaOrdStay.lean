/-
  OrderStays: exchanges of independent neighbours change nothing of the order.
-/
import Derived.Test.YthooddkoldfebaaOrderOf
import Derived.Test.YthooddkoldfebaaOrdMore
import Derived.Test.YthooddkoldfebaaEvRow2
import Derived.Test.YthooddkoldfebaaOrderGoes
import Derived.BigRegion
set_option linter.unusedSimpArgs false
set_option linter.unusedVariables false
namespace Go.Proofs.Ythooddkoldfebaa
open Go.ChangeShapes Go.WideShapes Go.ChangeAt Go.RowKit Go.Deep

theorem swap_get {l : List Ev} {k : Nat} {x y : Ev} (hx : l[k]? = some x) (hy : l[k + 1]? = some y) (u : Nat) : (swapAt l k x y).getD (sw k u) ev00 = l.getD u ev00 := by
  have h1 := (List.getElem?_eq_some_iff.1 hy).1
  unfold swapAt sw
  simp only [List.getD_eq_getElem?_getD, List.getElem?_set, List.length_set]
  by_cases hu : u = k
  · subst hu; rw [if_pos rfl, if_pos rfl, if_pos h1, hx]
  · rw [if_neg hu]
    by_cases hu1 : u = k + 1
    · subst hu1
      rw [if_pos rfl, if_neg (by omega), if_pos rfl, if_pos (by omega), hy]
    · rw [if_neg hu1, if_neg (by omega), if_neg (by omega)]
theorem swap_len (l : List Ev) (k : Nat) (x y : Ev) : (swapAt l k x y).length = l.length := by unfold swapAt; simp
theorem swap_rD {l : List Ev} {k : Nat} {x y : Ev} (hx : l[k]? = some x) (hy : l[k + 1]? = some y) (u v : Nat) : rD (swapAt l k x y) (sw k u) (sw k v) = rD l u v := by
  unfold rD; rw [swap_get hx hy, swap_get hx hy]
theorem swap_rS {l : List Ev} {k : Nat} {x y : Ev} (hx : l[k]? = some x) (hy : l[k + 1]? = some y) (u v : Nat) : rS (swapAt l k x y) (sw k u) (sw k v) = rS l u v := by
  unfold rS; rw [swap_get hx hy, swap_get hx hy]
theorem dep_symm {t k o t' k' o' : Int} (h : dependsB t k o t' k' o' = false) : dependsB t' k' o' t k o = false := by
  rw [depends_is] at h ⊢
  rw [← rdep_symm]; exact h
theorem step_dep_no {x y : Ev} (h : dependsB x.t x.k x.o y.t y.k y.o = false) : stepB x.t x.k x.o x.b y.t y.k y.o y.b = false := by
  cases hs : stepB x.t x.k x.o x.b y.t y.k y.o y.b
  · rfl
  · rw [step_dep hs] at h; cases h
theorem bef_swapD {l : List Ev} {k n : Nat} {x y : Ev} (hx : l[k]? = some x) (hy : l[k + 1]? = some y) (hd : dependsB x.t x.k x.o y.t y.k y.o = false) (hk : k + 1 < n) {a b : Nat} (ha : a < n) (hb : b < n) :
    befB n (rD (swapAt l k x y)) (sw k a : Int) (sw k b : Int) = befB n (rD l) (a : Int) (b : Int) := by
  rw [befB_nat ha hb, befB_nat (sw_lt hk ha) (sw_lt hk hb)]
  exact hbB_swap (swap_rD hx hy) (by rw [rD_of hx hy]; exact hd) (by rw [rD_of hy hx]; exact dep_symm hd) a b
theorem bef_swapS {l : List Ev} {k n : Nat} {x y : Ev} (hx : l[k]? = some x) (hy : l[k + 1]? = some y) (hd : dependsB x.t x.k x.o y.t y.k y.o = false) (hk : k + 1 < n) {a b : Nat} (ha : a < n) (hb : b < n) :
    befB n (rS (swapAt l k x y)) (sw k a : Int) (sw k b : Int) = befB n (rS l) (a : Int) (b : Int) := by
  rw [befB_nat ha hb, befB_nat (sw_lt hk ha) (sw_lt hk hb)]
  exact hbB_swap (swap_rS hx hy) (by rw [rS_of hx hy]; exact step_dep_no hd) (by rw [rS_of hy hx]; exact step_dep_no (dep_symm hd)) a b
theorem wrong_swap {l : List Ev} {k n : Nat} {x y : Ev} (hw : wrongS n l = 0) (hx : l[k]? = some x) (hy : l[k + 1]? = some y) (hd : dependsB x.t x.k x.o y.t y.k y.o = false) : wrongS n (swapAt l k x y) = 0 := by
  unfold wrongS at hw ⊢
  split at hw
  · cases hw
  · rename_i hn
    rw [if_neg hn]
    rcases ofS_cases l with ⟨S, hR, _, _⟩ | ⟨S, z, p, hR, hz⟩
    · obtain ⟨T, hT, _⟩ := exch_of hR hx hy hd
      rw [hT]
    · rw [hR] at hw; exact absurd hw hz
theorem evs_cells {w : World} {b off n c : Nat} {l : List Ev} {t : TypeId} (h : IsEvs w (some ⟨b, off, none⟩) n c l) (h1 : 1 ≤ n) : ∀ j u, (evCells l)[j]? = some u → (w.alloc (.cells #[] t)).cell? ((⟨b, off, none⟩ : Addr).add j) = some u := by
  obtain ⟨b2, off2, he, hc⟩ := h.reads.2 (by omega)
  cases he
  intro j u hu
  have h2 := hc j u hu
  have h3 : (w.alloc (.cells #[] t)).cell? ⟨b, off + j, none⟩ = some u := keep ((Below.refl _ _).alloc (Nat.le_refl _) _) h2
  unfold Addr.add
  split
  · rename_i h0; subst h0; exact h3
  · exact h3
theorem own_free {w : World} {B g n cap : Nat} {e : TypeId} {size : Nat} {xs : List Value} (h : w.ownsRow B e size (.slice (some ⟨g, 0, none⟩) n cap) n xs) (o : Nat) : w.frozen? ⟨g, o, none⟩ = false := by
  obtain ⟨cur, hc⟩ := own_obj h rfl
  simp [World.frozen?, hc]
theorem own_ev {w : World} {B g n cap : Nat} {l : List Ev} (h : w.ownsRow B 33 5 (.slice (some ⟨g, 0, none⟩) n cap) n (evCells l)) {i : Nat} {e : Ev} (hx : l[i]? = some e) :
    w.cell? ⟨g, i * 5, none⟩ = some (.int .i64 e.t) ∧ w.cell? ⟨g, i * 5 + 1, none⟩ = some (.int .i64 e.k) ∧ w.cell? ⟨g, i * 5 + 2, none⟩ = some (.int .i64 e.o) ∧ w.cell? ⟨g, i * 5 + 3, none⟩ = some (.int .i64 e.v) ∧ w.cell? ⟨g, i * 5 + 4, none⟩ = some (.int .i64 e.b) := by
  have hc := h.cells (g := g) rfl
  have ad : ∀ j, (⟨g, 0, none⟩ : Addr).add j = ⟨g, j, none⟩ := fun j => by
    unfold Addr.add
    split
    · rename_i h0; subst h0; rfl
    · simp
  have gg := fun j (hj : j < 5) => flat_get Ev.vals 5 (fun _ => rfl) l i j e hx hj
  have t0 := hc _ (.int .i64 e.t) (gg 0 (by decide))
  have t1 := hc _ (.int .i64 e.k) (gg 1 (by decide))
  have t2 := hc _ (.int .i64 e.o) (gg 2 (by decide))
  have t3 := hc _ (.int .i64 e.v) (gg 3 (by decide))
  have t4 := hc _ (.int .i64 e.b) (gg 4 (by decide))
  rw [ad] at t0 t1 t2 t3 t4
  exact ⟨t0, t1, t2, t3, t4⟩
theorem cells_one (l : List Ev) : ∀ u ∈ evCells l, u.oneCell' = true := by
  intro u hu
  simp only [evCells, List.mem_flatMap] at hu
  obtain ⟨e, _, he⟩ := hu
  exact vals_one e u he

set_option maxHeartbeats 2000000 in
theorem moved14_calls (w : World) (a k : Nat) (ha : a ≤ 1000) (hk : k ≤ 1000) :
    Calls Try.prog 22 #[.int .i64 (a : Int), .int .i64 (k : Int)] w fun e w' => e = .returned (.int .i64 (sw k a : Int)) ∧ w = w' := by
  by_cases h1 : a = k
  · have Hv : Hid ((sw k a : Int) = (k : Int) + 1) := by unfold Hid sw; rw [if_pos h1]; omega
    have ht : ((a : Int) == (k : Int)) = true := by simp; omega
    rw [Hv.out]
    clear h1
    go_enter Try.func22, Try.ntmps22
    go_wp2
    go_ret
    exact ⟨by go_num, rfl⟩
  · have ht : ((a : Int) == (k : Int)) = false := by simp; omega
    have hw : RowKit.wrap64 ((k : Int) + 1) = (k : Int) + 1 := wrap64_fit (by omega) (by omega)
    by_cases h2 : a = k + 1
    · have Hv : Hid ((sw k a : Int) = (k : Int)) := by unfold Hid sw; rw [if_neg h1, if_pos h2]
      have ht2 : ((a : Int) == (k : Int) + 1) = true := by simp; omega
      rw [Hv.out]
      clear h1 h2
      go_enter Try.func22, Try.ntmps22
      go_wp2
      go_ret
      exact ⟨rfl, rfl⟩
    · have Hv : Hid ((sw k a : Int) = (a : Int)) := by unfold Hid sw; rw [if_neg h1, if_neg h2]
      have ht2 : ((a : Int) == (k : Int) + 1) = false := by simp; omega
      rw [Hv.out]
      clear h1 h2
      go_enter Try.func22, Try.ntmps22
      go_wp2
      go_ret
      exact ⟨rfl, rfl⟩

set_option maxRecDepth 20000 in
set_option maxHeartbeats 16000000 in
theorem orderStays_law {w : World} {a0 : Option Addr} {n c : Nat} {l : List Ev} (h : IsEvs w a0 n c l) (i : Int) :
    Calls Try.prog 4 #[.slice a0 n c, .int .i64 i] w fun e w' => e = .returned (.bool true) ∧ Below w.heap.size w w' := by
  have hnm : n ≤ 9223372036854775807 := by have := h.le; have := h.cap; unfold maxLen at *; omega
  have Hev := Lib.hid h
  clear h
  go_enter Try.func4, Try.ntmps4
  go_wp2_with fail
  refine (oawake_calls _).mono ?_
  rintro e w1 ⟨rfl, hb1⟩
  have Hc := Lib.hid (both_calls (Hev.out.below hb1))
  have HB1 := Lib.hid hb1
  clear hb1
  go_wp2_with fail
  refine Hc.out.mono ?_
  rintro e w2 ⟨hb2, ⟨_, rfl⟩ | ⟨hw0, hg, b, v, v1, v2, B, rfl, hO, hM1, hM2⟩⟩
  · have HB2 := Lib.hid (HB1.out.trans (hb2.mono HB1.out.size))
    clear hb2
    go_wp2
    go_ret
    exact ⟨rfl, HB2.out.alloc HB2.out.size _⟩
  obtain ⟨sa, sp, sq, rfl⟩ := hM1.slice
  obtain ⟨ta, tp, tq, rfl⟩ := hM2.slice
  have hB2 := HB1.out.trans (hb2.mono HB1.out.size)
  have hal : Below w2.heap.size w2 (w2.alloc (.cells #[.slice a0 n c, .slice sa sp sq, .slice ta tp tq] 27)) := (Below.refl _ w2).alloc (Nat.le_refl _) _
  have hR3 : ROrdAt (w2.alloc (.cells #[.slice a0 n c, .slice sa sp sq, .slice ta tp tq] 27)) w2.heap.size a0 n c (.slice sa sp sq) (.slice ta tp tq) l :=
    ⟨(MapKept.heap_alloc w2 _).1, ⟨B, hM1.below hal⟩, ⟨B, hM2.below hal⟩, (Hev.out.below hB2).below hal⟩
  have hB3 := hB2.trans (hal.mono hB2.size)
  have HX := Lib.hid (And.intro (hO.below hal) (And.intro hR3 hB3))
  have HG := Lib.hid hg
  clear hb2 hB2 hal hR3 hB3 hO hM1 hM2 Hc hg
  have hn100 := HG.out.le
  have hwn : RowKit.wrap64 ((n : Int) - 1) = (n : Int) - 1 := wrap64_fit (by omega) (by omega)
  by_cases hi0 : i < 0
  · have hd0 : decide (i < 0) = true := decide_eq_true hi0
    clear hi0
    go_wp2
    go_ret
    exact ⟨rfl, HX.out.2.2⟩
  have hd0 : decide (i < 0) = false := decide_eq_false hi0
  by_cases hin : (n : Int) - 1 ≤ i
  · have hd2 : decide ((n : Int) - 1 ≤ i) = true := decide_eq_true hin
    clear hi0 hin
    go_wp2
    go_ret
    exact ⟨rfl, HX.out.2.2⟩
  have hd2 : decide ((n : Int) - 1 ≤ i) = false := decide_eq_false hin
  obtain ⟨k, rfl⟩ := Int.eq_ofNat_of_zero_le (show 0 ≤ i by omega)
  have hk : k + 1 < n := by omega
  have Hw0 := Lib.hid hw0
  clear hi0 hin hw0
  go_wp2_with fail
  revert HX
  generalize w2.alloc (.cells #[.slice a0 n c, .slice sa sp sq, .slice ta tp tq] 27) = w3
  intro HX
  have HO := Lib.hid HX.out.1
  have HR := Lib.hid HX.out.2.1
  have HB3 := Lib.hid HX.out.2.2
  clear HX
  have Hl := Lib.hid Hev.out.len
  have Hwf := Lib.hid Hev.out.wf
  obtain ⟨b0, off, x, rfl, hx, _, c0, c1, c2, c3, c4⟩ := Hev.out.at (show k < n by omega)
  obtain ⟨b0', off', y, he, hy, _, d0, d1, d2, d3, d4⟩ := Hev.out.at hk
  cases he
  have Hxy := Lib.hid (And.intro hx hy)
  have c0 := keep HB3.out c0
  have c1 := keep HB3.out c1
  have c2 := keep HB3.out c2
  have c3 := keep HB3.out c3
  have c4 := keep HB3.out c4
  have d0 := keep HB3.out d0
  have d1 := keep HB3.out d1
  have d2 := keep HB3.out d2
  have d3 := keep HB3.out d3
  have d4 := keep HB3.out d4
  obtain ⟨xt, xk, xo, xv, xb⟩ := x
  obtain ⟨yt, yk, yo, yv, yb⟩ := y
  simp only at c0 c1 c2 c3 c4 d0 d1 d2 d3 d4
  have Hst : ∀ W, Calls Try.prog 20 #[.agg #[.int .i64 xt, .int .i64 xk, .int .i64 xo, .int .i64 xv, .int .i64 xb], .agg #[.int .i64 yt, .int .i64 yk, .int .i64 yo, .int .i64 yv, .int .i64 yb]] W fun x w' => x = .returned (.bool (dependsB xt xk xo yt yk yo)) ∧ Below W.heap.size W w' := fun W => by
    rw [depends_is]; exact rdep_calls _ _ _ _ _ _ _ _ _ _ _
  have HD : Hid (dependsB xt xk xo yt yk yo = dependsB xt xk xo yt yk yo) := rfl
  clear hx hy
  revert Hst HD
  generalize hdd : dependsB xt xk xo yt yk yo = dd
  intro Hst HD
  have Hdd := Lib.hid hdd
  clear hdd HD
  refine wp_ext_draw 11 mixed (by kernel_rfl) ?_
  simp only [List.take_succ_cons, List.take_zero, List.drop_succ_cons, List.drop_zero]
  repeat ((first | ((apply TextRun.go rfl rfl rfl); (focus (intro w1 hS K hK; have hc := bcell hS; have hs := blt hS; have c0 := keep hS c0; have c1 := keep hS c1; have c2 := keep hS c2; have c3 := keep hS c3; have c4 := keep hS c4; have d0 := keep hS d0; have d1 := keep hS d1; have d2 := keep hS d2; have d3 := keep hS d3; have d4 := keep hS d4; go_wp2_with ((with_reducible refine (Hst _).mono ?_); rintro x' w4 ⟨rfl, hb⟩); first | done | exact hS | exact hS.trans (hb.mono hS.size)))) | (refine TextRun.skip rfl ?_) | ((refine TextRun.wantedT rfl rfl rfl ?_); (apply Exists.intro); (apply And.intro); (focus (intro w1 hS K hK; have hc := bcell hS; have hs := blt hS; have c0 := keep hS c0; have c1 := keep hS c1; have c2 := keep hS c2; have c3 := keep hS c3; have c4 := keep hS c4; have d0 := keep hS d0; have d1 := keep hS d1; have d2 := keep hS d2; have d3 := keep hS d3; have d4 := keep hS d4; go_wp2_with ((with_reducible refine (Hst _).mono ?_); rintro x' w4 ⟨rfl, hb⟩); first | done | exact hS | exact hS.trans (hb.mono hS.size))))); (simp only [Act.put, List.setIfInBounds_toArray, List.set_cons_zero, List.set_cons_succ]))
  refine TextRun.done ?_
  intro w5 hb
  have HB5 := Lib.hid (HB3.out.trans (hb.mono HB3.out.size))
  have HO5 := Lib.hid (HO.out.below hb)
  clear hb c0 c1 c2 c3 c4 d0 d1 d2 d3 d4 Hst
  cases dd
  case true =>
    go_wp2
    go_ret
    exact ⟨rfl, HB5.out⟩
  obtain ⟨i0, hi, hz0, hz1, hz2⟩ := info_parts infoEv
  have Hi := Lib.hid hi
  have Hz0 := Lib.hid hz0
  have Hz1 := Lib.hid hz1
  have Hz2 := Lib.hid hz2
  have Hn := Lib.hid (evs_cells (t := 33) (Hev.out.below HB5.out) (by omega))
  clear hi hz0 hz1 hz2
  go_wp2_with (at_builtin; go_loud (refine wpList_append_own _ rfl (.tmp 62) (.tmp 63) 22 rfl w5.heap.size 33 i0 (.agg #[.int .i64 0, .int .i64 0, .int .i64 0, .int .i64 0, .int .i64 0]) 5 40 Try.underlying22 Hi.out Hz0.out Hz1.out Hz2.out rfl (by decide) _ 0 [] rfl (World.ownsRow_made w5 #[] 0 (Nat.le_refl _) (Nat.zero_le _) rfl) ⟨b0, off, none⟩ n c (evCells l) rfl (by rw [evCells, flat_len Ev.vals 5 (fun _ => rfl), Hl.out]) Hn.out (cells_one l) (by unfold maxLen; omega) (by omega) (by simp) ?_); intro v' w6 hown hg hnl; clear hnl)
  obtain ⟨g, cap, rfl⟩ := own_slice hown (by omega)
  have hown' : w6.ownsRow w5.heap.size 33 5 (.slice (some ⟨g, 0, none⟩) n cap) n (evCells l) := by simpa using hown
  have hb6 : Below w5.heap.size w5 w6 := ((Below.refl _ _).alloc (Nat.le_refl _) _).grown hg (by simp) (fun k hk => by cases hk; exact Nat.le_refl _)
  have HB6 := Lib.hid (HB5.out.trans (hb6.mono HB5.out.size))
  have HO6 := Lib.hid (HO5.out.below hb6)
  have hgb : w5.heap.size ≤ g := (hown'.lt g rfl).1
  have hfr := own_free hown'
  obtain ⟨c0, c1, c2, c3, c4⟩ := own_ev hown' Hxy.out.1
  obtain ⟨d0, d1, d2, d3, d4⟩ := own_ev hown' Hxy.out.2
  simp only at c0 c1 c2 c3 c4 d0 d1 d2 d3 d4
  have HOw := Lib.hid hown'
  have Hgb := Lib.hid hgb
  clear hown hown' hg hb6 hgb
  go_wp2_with fail
  go_region
  have hO3 := own_swap HOw.out k (by have := Hl.out; omega) xt xk xo xv xb yt yk yo yv yb
  have hW7 := wrote_swap w6 g (k * 5) ((k + 1) * 5) (.int .i64 yt) (.int .i64 yk) (.int .i64 yo) (.int .i64 yv) (.int .i64 yb) (.int .i64 xt) (.int .i64 xk) (.int .i64 xo) (.int .i64 xv) (.int .i64 xb)
  clear HOw c0 c1 c2 c3 c4 d0 d1 d2 d3 d4 hfr
  revert hO3 hW7
  generalize ((((((((((w6.setCell ⟨g, k * 5, none⟩ (.int .i64 yt)).setCell ⟨g, k * 5 + 1, none⟩ (.int .i64 yk)).setCell ⟨g, k * 5 + 2, none⟩ (.int .i64 yo)).setCell ⟨g, k * 5 + 3, none⟩ (.int .i64 yv)).setCell ⟨g, k * 5 + 4, none⟩ (.int .i64 yb)).setCell ⟨g, (k + 1) * 5, none⟩ (.int .i64 xt)).setCell ⟨g, (k + 1) * 5 + 1, none⟩ (.int .i64 xk)).setCell ⟨g, (k + 1) * 5 + 2, none⟩ (.int .i64 xo)).setCell ⟨g, (k + 1) * 5 + 3, none⟩ (.int .i64 xv)).setCell ⟨g, (k + 1) * 5 + 4, none⟩ (.int .i64 xb)).drew = w7
  intro hO3 hW7
  have hwf2 : ∀ e ∈ swapAt l k ⟨xt, xk, xo, xv, xb⟩ ⟨yt, yk, yo, yv, yb⟩, e.wf := fun e he => by
    unfold swapAt at he
    rcases List.mem_or_eq_of_mem_set he with he | rfl
    · rcases List.mem_or_eq_of_mem_set he with he | rfl
      · exact Hwf.out e he
      · exact Hwf.out _ (List.mem_of_getElem? Hxy.out.2)
    · exact Hwf.out _ (List.mem_of_getElem? Hxy.out.1)
  have hI7 := evs_of_own hO3 hwf2
  have HI7 := Lib.hid hI7
  have hb7 := Wrote.below HB6.out hW7 HB6.out.size (fun q hq => by have := HB5.out.size; have := Hgb.out; omega)
  have HB7 := Lib.hid hb7
  have hO7 : OrdAt w7 w1.heap.size b v l n :=
    ⟨(hW7.block b HO6.out.lt (fun e => by have := HO5.out.lt; have := Hgb.out; omega)).trans HO6.out.blk, ownsRow_at HO6.out.own (fun q hq => hW7.block q (HO6.out.own.lt q hq).2 (fun e => by have := (HO5.out.own.lt q hq).2; have := Hgb.out; omega)), HO6.out.ne⟩
  have HO7 := Lib.hid hO7
  have Hw7 := Lib.hid (wrong_swap Hw0.out Hxy.out.1 Hxy.out.2 Hdd.out)
  clear hO3 hW7 hwf2 hI7 hb7 hO7 HO6 HO5 Hn Hi Hz0 Hz1 Hz2
  go_wp2_with fail
  refine (order_calls HI7.out).mono ?_
  rintro x w8 ⟨hb, ⟨h1, _⟩ | ⟨_, hg', b', v', rfl, hO'⟩⟩
  · exact absurd Hw7.out h1
  have HB8 := Lib.hid (HB7.out.trans (hb.mono HB7.out.size))
  have HO8 := Lib.hid (HO7.out.below hb)
  have HP8 := Lib.hid hO'
  have HG' := Lib.hid hg'
  clear hb hO' hg' HO7 HI7
  go_wp2_with fail
  go_loopw [14] (fun u wr => ∃ a : Nat, a ≤ n ∧ u = .int .i64 a ∧ Hid (Below w8.heap.size w8 wr)) (fun u _ => n - (intOf u).toNat)
  case atStart => exact ⟨0, Nat.zero_le _, rfl, Below.refl _ _⟩
  case round =>
    obtain ⟨a, ha, rfl, HB⟩ := hrel
    by_cases han : a < n
    · go_wp2_with fail
      have H4 := HB
      clear HB
      go_loopw [15] (fun u wr => ∃ c : Nat, c ≤ n ∧ u = .int .i64 c ∧ Hid (Below w8.heap.size w8 wr)) (fun u _ => n - (intOf u).toNat)
      case atStart => exact ⟨0, Nat.zero_le _, rfl, H4⟩
      case round =>
        clear H4
        obtain ⟨d, hd, rfl, HB⟩ := hrel
        by_cases hdn : d < n
        · go_wp2_with fail
          refine (moved14_calls _ a k (by omega) (by omega)).mono ?_
          rintro e y1 ⟨rfl, rfl⟩
          go_wp2_with fail
          refine (moved14_calls _ d k (by omega) (by omega)).mono ?_
          rintro e y1 ⟨rfl, rfl⟩
          go_wp2_with fail
          refine (before_calls (HO8.out.below HB.out) HG.out a d).mono ?_
          rintro e y1 ⟨rfl, hb⟩
          have HB := Lib.hid (HB.out.trans (hb.mono HB.out.size))
          clear hb
          go_wp2_with fail
          refine (before_calls (HP8.out.below HB.out) HG'.out _ _).mono ?_
          rintro e y2 ⟨rfl, hb⟩
          have HB := Lib.hid (HB.out.trans (hb.mono HB.out.size))
          clear hb
          rw [bef_swapD Hxy.out.1 Hxy.out.2 Hdd.out hk han hdn]
          go_wp2_with fail
          refine (sync_calls (HO8.out.below HB.out) HG.out a d).mono ?_
          rintro e y3 ⟨rfl, hb⟩
          have HB := Lib.hid (HB.out.trans (hb.mono HB.out.size))
          clear hb
          go_wp2_with fail
          refine (sync_calls (HP8.out.below HB.out) HG'.out _ _).mono ?_
          rintro e y4 ⟨rfl, hb⟩
          have HB := Lib.hid (HB.out.trans (hb.mono HB.out.size))
          clear hb
          rw [bef_swapS Hxy.out.1 Hxy.out.2 Hdd.out hk han hdn]
          generalize befB n (rD l) (a : Int) (d : Int) = p
          generalize befB n (rS l) (a : Int) (d : Int) = q
          go_wp2
          go_roundw
          case rel => exact ⟨d + 1, by omega, by go_num, HB⟩
          case measure => simp [intOf]; omega
        · go_wp2
          go_roundw
          case rel => exact ⟨a + 1, by omega, by go_num, HB⟩
          case measure => simp [intOf]; omega
    · go_wp2
      go_ret
      exact ⟨rfl, HB8.out.trans (HB.out.mono HB8.out.size)⟩
end Go.Proofs.Ythooddkoldfebaa
