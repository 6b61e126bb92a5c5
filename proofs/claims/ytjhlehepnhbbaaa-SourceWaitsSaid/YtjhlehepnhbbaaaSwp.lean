/-
  Swap of both: the events at a place and the next one exchanged.
-/
import Derived.Test.YtjhlehepnhbbaaaTrace
import Derived.BigRegion
import Derived.Lib.SliceRun
set_option linter.unusedSimpArgs false
set_option linter.unusedVariables false
namespace Go.Proofs.Ytjhlehepnhbbaaa
open Go.ChangeShapes Go.WideShapes Go.ChangeAt Go.RowKit Go.Deep

def eltEv : Elt Ev where
  T := 22
  e := 36
  z := .agg #[.int .i64 0, .int .i64 0, .int .i64 0, .int .i64 0, .int .i64 0]
  size := 5
  bytes := 40
  f := Ev.vals
  ht := Try.underlying22
  hi := infoEv
  hz := rfl
  hs := by decide
  hb := by decide
  hf := fun _ => rfl
  h1 := fun x u hu => by
    unfold Ev.vals at hu
    simp only [List.mem_cons, List.map_cons, List.map_nil, List.not_mem_nil, or_false] at hu
    rcases hu with rfl | rfl | rfl | rfl | rfl <;> rfl
theorem OwnL.evs {w : World} {B : Nat} {v : Value} {xs : List Ev} (h : OwnL eltEv w B v xs) (hw : ∀ x ∈ xs, x.wf) : ∃ a c, v = .slice a xs.length c ∧ IsEvs w a xs.length c xs := by
  obtain ⟨a, c, rfl, h1, h2, h3, h4⟩ := h.slice
  refine ⟨a, c, rfl, ⟨⟨flat_len Ev.vals 5 (fun _ => rfl) xs, fun hn => ?_⟩, rfl, h1, h2, hw⟩⟩
  cases a with
  | none => have := h3 rfl; subst this; simp at hn
  | some ad =>
    obtain ⟨g, o, s⟩ := ad
    obtain ⟨rfl, rfl, _, _, hc⟩ := h4 g o s rfl
    exact ⟨g, 0, rfl, fun j u hu => by rw [Nat.zero_add]; exact hc j u hu⟩
theorem meas {M j : Nat} (h : j < M) : M - (intOf (.int .i64 ((j : Int) + 1))).toNat < M - (intOf (.int .i64 (j : Int))).toNat := by
  simp only [intOf]; omega
theorem one_newR (w : World) (A : Array Value) (t : TypeId) : (w.alloc (.cells A t)).heap[w.heap.size]? = some (.cells A t (0, 0)) ∧ Below w.heap.size w (w.alloc (.cells A t)) := ⟨(MapKept.heap_alloc w (.cells A t)).1, (Below.refl _ w).alloc (Nat.le_refl _) _⟩
theorem evs_nil (w : World) : IsEvs w none 0 0 [] := ⟨Reads.nil, rfl, Nat.le_refl _, Nat.zero_le _, fun e he => by cases he⟩
theorem wrong_le16 {n : Nat} {l : List Ev} (h : wrongS n l = 0) : n ≤ 100 := by
  by_cases h2 : 100 < n
  · rw [wrongS, if_pos h2] at h; cases h
  · omega

/-- Who hands back a list of events and an error. -/
def EvsPost (w : World) (r : List Ev × Int) (e : Ending) (w' : World) : Prop := ∃ a c, e = .returned (.tuple #[.slice a r.1.length c, .int .i64 r.2]) ∧ IsEvs w' a r.1.length c r.1 ∧ Below w.heap.size w w'
theorem EvsPost.none {w w' : World} {z : Int} (hb : Below w.heap.size w w') : EvsPost w ([], z) (.returned (.tuple #[.slice none 0 0, .int .i64 z])) w' := ⟨Option.none, 0, rfl, evs_nil _, hb⟩
noncomputable def swpRes (n : Nat) (l : List Ev) (i : Int) : List Ev × Int :=
  if wrongS n l ≠ 0 then ([], wrongS n l) else if i < 0 ∨ (n : Int) - 1 ≤ i then ([], 1) else if depE (l.getD i.toNat ev00) (l.getD (i.toNat + 1) ev00) = true then ([], 1) else (swapAt l i.toNat (l.getD i.toNat ev00) (l.getD (i.toNat + 1) ev00), 0)
theorem swpRes_bad {n : Nat} {l : List Ev} {i : Int} (h : wrongS n l ≠ 0) : swpRes n l i = ([], wrongS n l) := if_pos h
theorem swpRes_out {n : Nat} {l : List Ev} {i : Int} (h : wrongS n l = 0) (hi : i < 0 ∨ (n : Int) - 1 ≤ i) : swpRes n l i = ([], 1) := by unfold swpRes; rw [if_neg (by rw [h]; simp), if_pos hi]
theorem swpRes_dep {n : Nat} {l : List Ev} {k : Nat} {x y : Ev} (h : wrongS n l = 0) (hk : k + 1 < n) (hx : l[k]? = some x) (hy : l[k + 1]? = some y) (hd : dependsB x.t x.k x.o y.t y.k y.o = true) : swpRes n l (k : Int) = ([], 1) := by
  unfold swpRes; rw [if_neg (by rw [h]; simp), if_neg (by omega), Int.toNat_natCast, getD_of hx, getD_of hy, if_pos (show depE x y = true from hd)]
theorem swpRes_yes {n : Nat} {l : List Ev} {k : Nat} {x y : Ev} (h : wrongS n l = 0) (hk : k + 1 < n) (hx : l[k]? = some x) (hy : l[k + 1]? = some y) (hd : dependsB x.t x.k x.o y.t y.k y.o = false) : swpRes n l (k : Int) = (swapAt l k x y, 0) := by
  unfold swpRes; rw [if_neg (by rw [h]; simp), if_neg (by omega), Int.toNat_natCast, getD_of hx, getD_of hy, if_neg (by unfold depE; rw [hd]; simp)]

set_option maxRecDepth 20000 in
set_option maxHeartbeats 4000000 in
theorem cloneE_calls {w : World} {a0 : Option Addr} {n c : Nat} {l : List Ev} (h : IsEvs w a0 n c l) (h1 : 1 ≤ n) (hn : n ≤ 1000) :
    Calls Try.prog 46 #[.slice a0 n c] w fun e w' => ∃ g cap, e = .returned (.slice (some ⟨g, 0, none⟩) n cap) ∧ w'.ownsRow w.heap.size 36 5 (.slice (some ⟨g, 0, none⟩) n cap) n (evCells l) ∧ Below w.heap.size w w' := by
  obtain ⟨b0, off, _, rfl, _, _, _, _, _, _, _⟩ := h.at h1
  have Hl := Lib.hid h.len
  have hnc : n ≤ c := h.le
  obtain ⟨i0, hi, hz0, hz1, hz2⟩ := info_parts infoEv
  have Hi := Lib.hid hi
  have Hz0 := Lib.hid hz0
  have Hz1 := Lib.hid hz1
  have Hz2 := Lib.hid hz2
  have Hn := Lib.hid (evs_cells (t := 36) h h1)
  have hnil : ∀ W, (binOp .eql 22 (.slice (some ⟨b0, off, none⟩) n c) (.slice none 0 0)).run Try.prog W = .ok (.bool false) W := fun W => Lib.run_eql_slice_nil W _ _ _ n c 0 0 Try.underlying22
  clear hi hz0 hz1 hz2 h
  go_enter Try.func46, Try.ntmps46
  go_wp2_with (at_builtin; go_loud (refine wpList_append_own _ rfl (.tmp 5) (.tmp 6) 22 rfl w.heap.size 36 i0 (.agg #[.int .i64 0, .int .i64 0, .int .i64 0, .int .i64 0, .int .i64 0]) 5 40 Try.underlying22 Hi.out Hz0.out Hz1.out Hz2.out rfl (by decide) _ 0 [] rfl (World.ownsRow_made w #[] 0 (Nat.le_refl _) (Nat.zero_le _) rfl) ⟨b0, off, none⟩ n c (evCells l) rfl (by rw [evCells, flat_len Ev.vals 5 (fun _ => rfl), Hl.out]) Hn.out (cells_one l) (by unfold maxLen; omega) (by omega) (by simp) ?_); intro v' w6 hown hg hnl; clear hnl)
  obtain ⟨g, cap, rfl⟩ := own_slice hown (by omega)
  simp only [Nat.zero_add]
  have hown' : w6.ownsRow w.heap.size 36 5 (.slice (some ⟨g, 0, none⟩) n cap) n (evCells l) := by simpa using hown
  have hb6 : Below w.heap.size w w6 := ((Below.refl _ _).alloc (Nat.le_refl _) _).grown hg (by simp) (fun k hk => by cases hk; exact Nat.le_refl _)
  have HO := Lib.hid hown'
  have HB := Lib.hid hb6
  clear hown hown' hg hb6 Hn Hi Hz0 Hz1 Hz2
  go_wp2
  go_ret
  exact ⟨_, _, rfl, HO.out, HB.out⟩

set_option maxRecDepth 20000 in
set_option maxHeartbeats 16000000 in
theorem swap_calls {w : World} {a0 : Option Addr} {n c : Nat} {l : List Ev} (h : IsEvs w a0 n c l) (i : Int) :
    Calls Try.prog 15 #[.slice a0 n c, .int .i64 i] w (EvsPost w (swpRes n l i)) := by
  have hnm : n ≤ 9223372036854775807 := by have := h.le; have := h.cap; unfold maxLen at *; omega
  have Hev := Lib.hid h
  have Ho := Lib.hid (order_calls h)
  clear h
  go_enter Try.func15, Try.ntmps15
  go_wp2_with fail
  refine Ho.out.mono ?_
  rintro e w2 ⟨hb1, ⟨hz, rfl⟩ | ⟨hz, hg, b, v, rfl, hO⟩⟩
  · have HB1 := Lib.hid hb1
    have hz' : (wrongS n l != 0) = true := by simpa [bne] using hz
    have Hq : Hid (EvsPost w (swpRes n l i) (.returned (.tuple #[.slice none 0 0, .int .i64 (wrongS n l)])) w2) := by rw [Hid, swpRes_bad hz]; exact EvsPost.none HB1.out
    clear hb1 hz Ho
    generalize wrongS n l = z at *
    go_wp2
    go_returns
    exact Hq.out
  have HB2 := Lib.hid hb1
  have hn100 : n ≤ 100 := hg.le
  have Hz := Lib.hid hz
  clear hb1 hg hO hz Ho
  go_wp2_with fail
  by_cases hi0 : i < 0
  · have hd0 : decide (i < 0) = true := decide_eq_true hi0
    have Hr := Lib.hid (swpRes_out (n := n) (l := l) Hz.out (.inl hi0))
    clear hi0
    refine wp_ext_draw 21 mixed (by kernel_rfl) ?_
    simp only [List.take_succ_cons, List.take_zero, List.drop_succ_cons, List.drop_zero]
    repeat ((first | ((apply TextRun.go rfl rfl rfl); (focus (intro w1 hS K hK; have hc := bcell hS; have hs := blt hS; go_wp2_with (fail); first | done | exact hS | exact hS.trans (hb.mono hS.size)))) | (refine TextRun.skip rfl ?_) | ((refine TextRun.wantedT rfl rfl rfl ?_); (apply Exists.intro); (apply And.intro); (focus (intro w1 hS K hK; have hc := bcell hS; have hs := blt hS; go_wp2_with (fail); first | done | exact hS | exact hS.trans (hb.mono hS.size))))); (simp only [Act.put, List.setIfInBounds_toArray, List.set_cons_zero, List.set_cons_succ]))
    refine TextRun.done ?_
    intro w3 hb
    have Hq : Hid (EvsPost w (swpRes n l i) (.returned (.tuple #[.slice none 0 0, .int .i64 1])) w3) := by rw [Hid, Hr.out]; exact EvsPost.none (HB2.out.trans (hb.mono HB2.out.size))
    clear hb
    go_wp2
    go_returns
    exact Hq.out
  have hd0 : decide (i < 0) = false := decide_eq_false hi0
  by_cases hin : (n : Int) - 1 ≤ i
  · have hd2 : decide ((n : Int) - 1 ≤ i) = true := decide_eq_true hin
    have Hr := Lib.hid (swpRes_out (n := n) (l := l) Hz.out (.inr hin))
    clear hi0 hin
    refine wp_ext_draw 21 mixed (by kernel_rfl) ?_
    simp only [List.take_succ_cons, List.take_zero, List.drop_succ_cons, List.drop_zero]
    repeat ((first | ((apply TextRun.go rfl rfl rfl); (focus (intro w1 hS K hK; have hc := bcell hS; have hs := blt hS; go_wp2_with (fail); first | done | exact hS | exact hS.trans (hb.mono hS.size)))) | (refine TextRun.skip rfl ?_) | ((refine TextRun.wantedT rfl rfl rfl ?_); (apply Exists.intro); (apply And.intro); (focus (intro w1 hS K hK; have hc := bcell hS; have hs := blt hS; go_wp2_with (fail); first | done | exact hS | exact hS.trans (hb.mono hS.size))))); (simp only [Act.put, List.setIfInBounds_toArray, List.set_cons_zero, List.set_cons_succ]))
    refine TextRun.done ?_
    intro w3 hb
    have Hq : Hid (EvsPost w (swpRes n l i) (.returned (.tuple #[.slice none 0 0, .int .i64 1])) w3) := by rw [Hid, Hr.out]; exact EvsPost.none (HB2.out.trans (hb.mono HB2.out.size))
    clear hb
    go_wp2
    go_returns
    exact Hq.out
  have hd2 : decide ((n : Int) - 1 ≤ i) = false := decide_eq_false hin
  obtain ⟨k, rfl⟩ := Int.eq_ofNat_of_zero_le (show 0 ≤ i by omega)
  have hk : k + 1 < n := by omega
  have hkn : k < n := by omega
  clear hi0 hin
  have Hl := Lib.hid Hev.out.len
  have Hwf := Lib.hid Hev.out.wf
  obtain ⟨b0, off, x, rfl, hx, _, c0, c1, c2, c3, c4⟩ := (Hev.out.below HB2.out).at (show k < n by omega)
  obtain ⟨b0', off', y, he, hy, _, d0, d1, d2, d3, d4⟩ := (Hev.out.below HB2.out).at hk
  cases he
  have Hxy := Lib.hid (And.intro hx hy)
  obtain ⟨xt, xk, xo, xv, xb⟩ := x
  obtain ⟨yt, yk, yo, yv, yb⟩ := y
  simp only at c0 c1 c2 c3 c4 d0 d1 d2 d3 d4
  have Hst : ∀ W, Calls Try.prog 45 #[.agg #[.int .i64 xt, .int .i64 xk, .int .i64 xo, .int .i64 xv, .int .i64 xb], .agg #[.int .i64 yt, .int .i64 yk, .int .i64 yo, .int .i64 yv, .int .i64 yb]] W fun x w' => x = .returned (.bool (dependsB xt xk xo yt yk yo)) ∧ Below W.heap.size W w' := fun W => depends_calls _ _ _ _ _ _ _ _ _ _ _
  have HD : Hid (dependsB xt xk xo yt yk yo = dependsB xt xk xo yt yk yo) := rfl
  clear hx hy
  revert Hst HD
  generalize hdd : dependsB xt xk xo yt yk yo = dd
  intro Hst HD
  have Hdd := Lib.hid hdd
  clear hdd HD
  refine wp_ext_draw 21 mixed (by kernel_rfl) ?_
  simp only [List.take_succ_cons, List.take_zero, List.drop_succ_cons, List.drop_zero]
  repeat ((first | ((apply TextRun.go rfl rfl rfl); (focus (intro w1 hS K hK; have hc := bcell hS; have hs := blt hS; have c0 := keep hS c0; have c1 := keep hS c1; have c2 := keep hS c2; have c3 := keep hS c3; have c4 := keep hS c4; have d0 := keep hS d0; have d1 := keep hS d1; have d2 := keep hS d2; have d3 := keep hS d3; have d4 := keep hS d4; go_wp2_with ((with_reducible refine (Hst _).mono ?_); rintro x' w4 ⟨rfl, hb⟩); first | done | exact hS | exact hS.trans (hb.mono hS.size)))) | (refine TextRun.skip rfl ?_) | ((refine TextRun.wantedT rfl rfl rfl ?_); (apply Exists.intro); (apply And.intro); (focus (intro w1 hS K hK; have hc := bcell hS; have hs := blt hS; have c0 := keep hS c0; have c1 := keep hS c1; have c2 := keep hS c2; have c3 := keep hS c3; have c4 := keep hS c4; have d0 := keep hS d0; have d1 := keep hS d1; have d2 := keep hS d2; have d3 := keep hS d3; have d4 := keep hS d4; go_wp2_with ((with_reducible refine (Hst _).mono ?_); rintro x' w4 ⟨rfl, hb⟩); first | done | exact hS | exact hS.trans (hb.mono hS.size))))); (simp only [Act.put, List.setIfInBounds_toArray, List.set_cons_zero, List.set_cons_succ]))
  refine TextRun.done ?_
  intro w5 hb
  have HB5 := Lib.hid (HB2.out.trans (hb.mono HB2.out.size))
  clear hb c0 c1 c2 c3 c4 d0 d1 d2 d3 d4 Hst
  cases dd
  case true =>
    have Hq : Hid (EvsPost w (swpRes n l (k : Int)) (.returned (.tuple #[.slice none 0 0, .int .i64 1])) w5) := by rw [Hid, swpRes_dep Hz.out hk Hxy.out.1 Hxy.out.2 Hdd.out]; exact EvsPost.none HB5.out
    go_wp2
    go_returns
    exact Hq.out
  go_wp2_with fail
  refine (cloneE_calls (Hev.out.below HB5.out) (by omega) (by omega)).mono ?_
  rintro e w6 ⟨g, cap, rfl, hown', hb6⟩
  have HB6 := Lib.hid (HB5.out.trans (hb6.mono HB5.out.size))
  have hgb : w5.heap.size ≤ g := (hown'.lt g rfl).1
  have hfr := own_free hown'
  obtain ⟨c0, c1, c2, c3, c4⟩ := own_ev hown' Hxy.out.1
  obtain ⟨d0, d1, d2, d3, d4⟩ := own_ev hown' Hxy.out.2
  simp only at c0 c1 c2 c3 c4 d0 d1 d2 d3 d4
  have HOw := Lib.hid hown'
  have Hgb := Lib.hid hgb
  clear hown' hgb hb6
  go_wp2_with fail
  go_region
  have hO3 := own_swap HOw.out k (by have := Hl.out; omega) xt xk xo xv xb yt yk yo yv yb
  have hW7 := wrote_swap w6 g (k * 5) ((k + 1) * 5) (.int .i64 yt) (.int .i64 yk) (.int .i64 yo) (.int .i64 yv) (.int .i64 yb) (.int .i64 xt) (.int .i64 xk) (.int .i64 xo) (.int .i64 xv) (.int .i64 xb)
  clear HOw c0 c1 c2 c3 c4 d0 d1 d2 d3 d4 hfr
  revert hO3 hW7
  generalize ((((((((((w6.setCell ⟨g, k * 5, none⟩ (.int .i64 yt)).setCell ⟨g, k * 5 + 1, none⟩ (.int .i64 yk)).setCell ⟨g, k * 5 + 2, none⟩ (.int .i64 yo)).setCell ⟨g, k * 5 + 3, none⟩ (.int .i64 yv)).setCell ⟨g, k * 5 + 4, none⟩ (.int .i64 yb)).setCell ⟨g, (k + 1) * 5, none⟩ (.int .i64 xt)).setCell ⟨g, (k + 1) * 5 + 1, none⟩ (.int .i64 xk)).setCell ⟨g, (k + 1) * 5 + 2, none⟩ (.int .i64 xo)).setCell ⟨g, (k + 1) * 5 + 3, none⟩ (.int .i64 xv)).setCell ⟨g, (k + 1) * 5 + 4, none⟩ (.int .i64 xb)).drew = w7
  intro hO3 hW7
  have hwf2 : ∀ e ∈ swapAt l k ⟨xt, xk, xo, xv, xb⟩ ⟨yt, yk, yo, yv, yb⟩, e.wf := fun e he => by
    unfold swapAt at he
    rcases List.mem_or_eq_of_mem_set he with he | rfl
    · rcases List.mem_or_eq_of_mem_set he with he | rfl
      · exact Hwf.out e he
      · exact Hwf.out _ (List.mem_of_getElem? Hxy.out.2)
    · exact Hwf.out _ (List.mem_of_getElem? Hxy.out.1)
  have hI7 := evs_of_own hO3 hwf2
  have HI7 := Lib.hid hI7
  have hb7 := Wrote.below HB6.out hW7 HB6.out.size (fun q hq => by have := HB5.out.size; have := Hgb.out; omega)
  have HB7 := Lib.hid hb7
  have Hq : Hid (EvsPost w (swpRes n l (k : Int)) (.returned (.tuple #[.slice (some ⟨g, 0, none⟩) n cap, .int .i64 0])) w7) := by
    rw [Hid, swpRes_yes Hz.out hk Hxy.out.1 Hxy.out.2 Hdd.out]
    have hle : (swapAt l k ⟨xt, xk, xo, xv, xb⟩ ⟨yt, yk, yo, yv, yb⟩).length = n := by rw [swap_len]; exact Hl.out
    exact ⟨_, cap, by rw [hle], by rw [hle]; exact HI7.out, HB7.out⟩
  clear hO3 hW7 hwf2 hI7 hb7 HI7 HB7
  go_wp2
  go_returns
  exact Hq.out

set_option maxRecDepth 20000 in
set_option maxHeartbeats 16000000 in
theorem rswap_calls {w : World} {a0 : Option Addr} {n c : Nat} {l : List Ev} (h : IsEvs w a0 n c l) (i : Int) :
    Calls Try.prog 16 #[.slice a0 n c, .int .i64 i] w (EvsPost w (swpRes n l i)) := by
  have hnm : n ≤ 9223372036854775807 := by have := h.le; have := h.cap; unfold maxLen at *; omega
  have Hev := Lib.hid h
  clear h
  go_enter Try.func16, Try.ntmps16
  go_wp2_with fail
  refine (rwrong_calls Hev.out).mono ?_
  rintro e w2 ⟨rfl, hb1⟩
  have HB2 := Lib.hid hb1
  clear hb1
  by_cases hz : wrongS n l = 0
  case neg =>
    have hz' : (wrongS n l != 0) = true := by simpa [bne] using hz
    have Hq : Hid (EvsPost w (swpRes n l i) (.returned (.tuple #[.slice none 0 0, .int .i64 (wrongS n l)])) w2) := by rw [Hid, swpRes_bad hz]; exact EvsPost.none HB2.out
    clear hz
    generalize wrongS n l = z at *
    go_wp2
    go_returns
    exact Hq.out
  have hn100 : n ≤ 100 := wrong_le16 hz
  have Hz := Lib.hid hz
  rw [hz]
  clear hz
  by_cases hi0 : i < 0
  · have hd0 : decide (i < 0) = true := decide_eq_true hi0
    have Hq : Hid (EvsPost w (swpRes n l i) (.returned (.tuple #[.slice none 0 0, .int .i64 1])) w2) := by rw [Hid, swpRes_out Hz.out (.inl hi0)]; exact EvsPost.none HB2.out
    clear hi0
    go_wp2
    go_returns
    exact Hq.out
  have hd0 : decide (i < 0) = false := decide_eq_false hi0
  by_cases hin : (n : Int) - 1 ≤ i
  · have hd2 : decide ((n : Int) - 1 ≤ i) = true := decide_eq_true hin
    have Hq : Hid (EvsPost w (swpRes n l i) (.returned (.tuple #[.slice none 0 0, .int .i64 1])) w2) := by rw [Hid, swpRes_out Hz.out (.inr hin)]; exact EvsPost.none HB2.out
    clear hi0 hin
    go_wp2
    go_returns
    exact Hq.out
  have hd2 : decide ((n : Int) - 1 ≤ i) = false := decide_eq_false hin
  obtain ⟨k, rfl⟩ := Int.eq_ofNat_of_zero_le (show 0 ≤ i by omega)
  have hk : k + 1 < n := by omega
  have hkn : k < n := by omega
  clear hi0 hin
  have hnc : n ≤ c := Hev.out.le
  have Hl := Lib.hid Hev.out.len
  have Hwf := Lib.hid Hev.out.wf
  go_wp2_with fail
  obtain ⟨b0, off, x, rfl, hx, _, c0, c1, c2, c3, c4⟩ := (Hev.out.below HB2.out).at (show k < n by omega)
  obtain ⟨b0', off', y, he, hy, _, d0, d1, d2, d3, d4⟩ := (Hev.out.below HB2.out).at hk
  cases he
  have Hxy := Lib.hid (And.intro hx hy)
  obtain ⟨xt, xk, xo, xv, xb⟩ := x
  obtain ⟨yt, yk, yo, yv, yb⟩ := y
  simp only at c0 c1 c2 c3 c4 d0 d1 d2 d3 d4
  have Hst : ∀ W, Calls Try.prog 47 #[.agg #[.int .i64 xt, .int .i64 xk, .int .i64 xo, .int .i64 xv, .int .i64 xb], .agg #[.int .i64 yt, .int .i64 yk, .int .i64 yo, .int .i64 yv, .int .i64 yb]] W fun x w' => x = .returned (.bool (dependsB xt xk xo yt yk yo)) ∧ Below W.heap.size W w' := fun W => by
    rw [depends_is]; exact rdep_calls _ _ _ _ _ _ _ _ _ _ _
  have HD : Hid (dependsB xt xk xo yt yk yo = dependsB xt xk xo yt yk yo) := rfl
  clear hx hy
  revert Hst HD
  generalize hdd : dependsB xt xk xo yt yk yo = dd
  intro Hst HD
  have Hdd := Lib.hid hdd
  clear hdd HD
  refine wp_ext_draw 11 mixed (by kernel_rfl) ?_
  simp only [List.take_succ_cons, List.take_zero, List.drop_succ_cons, List.drop_zero]
  repeat ((first | ((apply TextRun.go rfl rfl rfl); (focus (intro w1 hS K hK; have hc := bcell hS; have hs := blt hS; have c0 := keep hS c0; have c1 := keep hS c1; have c2 := keep hS c2; have c3 := keep hS c3; have c4 := keep hS c4; have d0 := keep hS d0; have d1 := keep hS d1; have d2 := keep hS d2; have d3 := keep hS d3; have d4 := keep hS d4; go_wp2_with ((with_reducible refine (Hst _).mono ?_); rintro x' w4 ⟨rfl, hb⟩); first | done | exact hS | exact hS.trans (hb.mono hS.size)))) | (refine TextRun.skip rfl ?_) | ((refine TextRun.wantedT rfl rfl rfl ?_); (apply Exists.intro); (apply And.intro); (focus (intro w1 hS K hK; have hc := bcell hS; have hs := blt hS; have c0 := keep hS c0; have c1 := keep hS c1; have c2 := keep hS c2; have c3 := keep hS c3; have c4 := keep hS c4; have d0 := keep hS d0; have d1 := keep hS d1; have d2 := keep hS d2; have d3 := keep hS d3; have d4 := keep hS d4; go_wp2_with ((with_reducible refine (Hst _).mono ?_); rintro x' w4 ⟨rfl, hb⟩); first | done | exact hS | exact hS.trans (hb.mono hS.size))))); (simp only [Act.put, List.setIfInBounds_toArray, List.set_cons_zero, List.set_cons_succ]))
  refine TextRun.done ?_
  intro w5 hb
  have HB5 := Lib.hid (HB2.out.trans (hb.mono HB2.out.size))
  clear hb c0 c1 c2 c3 c4 d0 d1 d2 d3 d4 Hst
  cases dd
  case true =>
    have Hq : Hid (EvsPost w (swpRes n l (k : Int)) (.returned (.tuple #[.slice none 0 0, .int .i64 1])) w5) := by rw [Hid, swpRes_dep Hz.out hk Hxy.out.1 Hxy.out.2 Hdd.out]; exact EvsPost.none HB5.out
    go_wp2
    go_returns
    exact Hq.out
  obtain ⟨i0, hi, hz0, hz1, hz2⟩ := info_parts infoEv
  have Hi := Lib.hid hi
  have Hz0 := Lib.hid hz0
  have Hz1 := Lib.hid hz1
  have Hz2 := Lib.hid hz2
  have Hn := Lib.hid (evs_cells (t := 36) (Hev.out.below HB5.out) (by omega))
  clear hi hz0 hz1 hz2
  go_wp2_with (at_builtin; go_loud (refine wpList_append_own _ rfl (.tmp 34) (.tmp 35) 22 rfl w5.heap.size 36 i0 (.agg #[.int .i64 0, .int .i64 0, .int .i64 0, .int .i64 0, .int .i64 0]) 5 40 Try.underlying22 Hi.out Hz0.out Hz1.out Hz2.out rfl (by decide) _ 0 [] rfl (World.ownsRow_made w5 #[] 0 (Nat.le_refl _) (Nat.zero_le _) rfl) ⟨b0, off, none⟩ n c (evCells l) rfl (by rw [evCells, flat_len Ev.vals 5 (fun _ => rfl), Hl.out]) Hn.out (cells_one l) (by unfold maxLen; omega) (by omega) (by simp) ?_); intro v' w6 hown hg hnl; clear hnl)
  obtain ⟨g, cap, rfl⟩ := own_slice hown (by omega)
  simp only [Nat.zero_add]
  have hown' : w6.ownsRow w5.heap.size 36 5 (.slice (some ⟨g, 0, none⟩) n cap) n (evCells l) := by simpa using hown
  have hb6 : Below w5.heap.size w5 w6 := ((Below.refl _ _).alloc (Nat.le_refl _) _).grown hg (by simp) (fun k hk => by cases hk; exact Nat.le_refl _)
  have HB6 := Lib.hid (HB5.out.trans (hb6.mono HB5.out.size))
  have hgb : w5.heap.size ≤ g := (hown'.lt g rfl).1
  have hfr := own_free hown'
  obtain ⟨c0, c1, c2, c3, c4⟩ := own_ev hown' Hxy.out.1
  obtain ⟨d0, d1, d2, d3, d4⟩ := own_ev hown' Hxy.out.2
  simp only at c0 c1 c2 c3 c4 d0 d1 d2 d3 d4
  have HOw := Lib.hid hown'
  have Hgb := Lib.hid hgb
  clear hown hown' hg hb6 hgb
  go_wp2_with fail
  go_region
  have hO3 := own_swap HOw.out k (by have := Hl.out; omega) xt xk xo xv xb yt yk yo yv yb
  have hW7 := wrote_swap w6 g (k * 5) ((k + 1) * 5) (.int .i64 yt) (.int .i64 yk) (.int .i64 yo) (.int .i64 yv) (.int .i64 yb) (.int .i64 xt) (.int .i64 xk) (.int .i64 xo) (.int .i64 xv) (.int .i64 xb)
  clear HOw c0 c1 c2 c3 c4 d0 d1 d2 d3 d4 hfr
  revert hO3 hW7
  generalize ((((((((((w6.setCell ⟨g, k * 5, none⟩ (.int .i64 yt)).setCell ⟨g, k * 5 + 1, none⟩ (.int .i64 yk)).setCell ⟨g, k * 5 + 2, none⟩ (.int .i64 yo)).setCell ⟨g, k * 5 + 3, none⟩ (.int .i64 yv)).setCell ⟨g, k * 5 + 4, none⟩ (.int .i64 yb)).setCell ⟨g, (k + 1) * 5, none⟩ (.int .i64 xt)).setCell ⟨g, (k + 1) * 5 + 1, none⟩ (.int .i64 xk)).setCell ⟨g, (k + 1) * 5 + 2, none⟩ (.int .i64 xo)).setCell ⟨g, (k + 1) * 5 + 3, none⟩ (.int .i64 xv)).setCell ⟨g, (k + 1) * 5 + 4, none⟩ (.int .i64 xb)).drew = w7
  intro hO3 hW7
  have hwf2 : ∀ e ∈ swapAt l k ⟨xt, xk, xo, xv, xb⟩ ⟨yt, yk, yo, yv, yb⟩, e.wf := fun e he => by
    unfold swapAt at he
    rcases List.mem_or_eq_of_mem_set he with he | rfl
    · rcases List.mem_or_eq_of_mem_set he with he | rfl
      · exact Hwf.out e he
      · exact Hwf.out _ (List.mem_of_getElem? Hxy.out.2)
    · exact Hwf.out _ (List.mem_of_getElem? Hxy.out.1)
  have hI7 := evs_of_own hO3 hwf2
  have HI7 := Lib.hid hI7
  have hb7 := Wrote.below HB6.out hW7 HB6.out.size (fun q hq => by have := HB5.out.size; have := Hgb.out; omega)
  have HB7 := Lib.hid hb7
  have Hq : Hid (EvsPost w (swpRes n l (k : Int)) (.returned (.tuple #[.slice (some ⟨g, 0, none⟩) n cap, .int .i64 0])) w7) := by
    rw [Hid, swpRes_yes Hz.out hk Hxy.out.1 Hxy.out.2 Hdd.out]
    have hle : (swapAt l k ⟨xt, xk, xo, xv, xb⟩ ⟨yt, yk, yo, yv, yb⟩).length = n := by rw [swap_len]; exact Hl.out
    exact ⟨_, cap, by rw [hle], by rw [hle]; exact HI7.out, HB7.out⟩
  clear hO3 hW7 hwf2 hI7 hb7 HI7 HB7
  go_wp2
  go_returns
  exact Hq.out
end Go.Proofs.Ytjhlehepnhbbaaa
