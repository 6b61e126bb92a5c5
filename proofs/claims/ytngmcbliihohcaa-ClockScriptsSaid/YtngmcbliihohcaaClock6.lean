/-
  The document's Tick and Join, on lists of counts.
-/
import Derived.Test.YtngmcbliihohcaaClock5
import Derived.Test.YtngmcbliihohcaaApp
set_option linter.unusedSimpArgs false
set_option linter.unusedVariables false
namespace Go.Proofs.Ytngmcbliihohcaa
open Go.ChangeShapes Go.WideShapes Go.ChangeAt Go.RowKit Go.Deep

/-- A list of counts in a row of its own. -/
structure RowAt (w : World) (g cap : Nat) (l : List Int) : Prop where
  ex : ∃ cur, w.heap[g]? = some (.cells cur 3 (0, 0)) ∧ cur.size = cap ∧ cur.toList.take l.length = l.map (Value.int .i64)
  le : l.length ≤ cap
  cm : cap ≤ maxLen
  wf : ∀ x ∈ l, Fit x
section
variable {w w' : World} {g cap : Nat} {l : List Int}
theorem RowAt.of_own {base n : Nat} {v : Value} {xs : List Int} (h : w.ownsRow base 3 1 v n (xs.map (Value.int .i64))) (h1 : 1 ≤ n) (hf : ∀ x ∈ xs, Fit x) : ∃ g cap, v = .slice (some ⟨g, 0, none⟩) n cap ∧ xs.length = n ∧ RowAt w g cap xs ∧ base ≤ g := by
  rcases h.2 with ⟨_, h0⟩ | ⟨g, cap, cur, rfl, hb, hg, hnc, hcm, hcs, ht⟩
  · omega
  have hl : xs.length = n := by simpa using h.1
  exact ⟨g, cap, rfl, hl, ⟨⟨cur, hg, by simpa using hcs, by rw [hl]; simpa using ht⟩, by omega, hcm, hf⟩, hb⟩
theorem RowAt.at (h : RowAt w g cap l) {i : Nat} {x : Int} (hi : l[i]? = some x) : w.cell? ⟨g, i, none⟩ = some (.int .i64 x) := by
  obtain ⟨cur, h2, _, h6⟩ := h.ex
  have hlt : i < l.length := (List.getElem?_eq_some_iff.1 hi).1
  have h1 : (cur.toList.take l.length)[i]? = some (.int .i64 x) := by rw [h6, List.getElem?_map, hi]; rfl
  rw [List.getElem?_take_of_lt hlt] at h1
  rw [cell_of_block h2, ← Array.getElem?_toList]
  exact h1
theorem RowAt.free (h : RowAt w g cap l) (i : Nat) : w.frozen? ⟨g, i, none⟩ = false := by
  obtain ⟨cur, h2, _⟩ := h.ex
  exact free_of_block h2
theorem RowAt.lt (h : RowAt w g cap l) : g < w.heap.size := by
  obtain ⟨cur, h2, _⟩ := h.ex
  exact (Array.getElem?_eq_some_iff.1 h2).1
theorem RowAt.below (h : RowAt w g cap l) (hb : Below w.heap.size w w') : RowAt w' g cap l := by
  obtain ⟨cur, h2, r⟩ := h.ex
  exact ⟨⟨cur, by rw [hb.block g h.lt]; exact h2, r⟩, h.le, h.cm, h.wf⟩
theorem RowAt.set (h : RowAt w g cap l) {i : Nat} {x : Int} (hx : Fit x) : RowAt (w.setCell ⟨g, i, none⟩ (.int .i64 x)) g cap (l.set i x) := by
  obtain ⟨cur, h2, h5, h6⟩ := h.ex
  refine ⟨⟨cur.setIfInBounds i (.int .i64 x), ?_, by simpa using h5, ?_⟩, by simpa using h.le, h.cm, fun y hy => ?_⟩
  · simp [World.setCell, Array.getElem?_modify, h2]
  · rw [List.length_set, Array.toList_setIfInBounds, List.take_set, h6, List.map_set]
  · rcases List.mem_or_eq_of_mem_set hy with hy | rfl
    · exact h.wf y hy
    · exact hx
theorem RowAt.ints (h : RowAt w g cap l) : IsInts w (some ⟨g, 0, none⟩) l.length cap l := by
  refine ⟨⟨by simp, fun _ => ⟨g, 0, rfl, fun j u hu => ?_⟩⟩, rfl, h.le, h.cm, h.wf⟩
  rw [List.getElem?_map] at hu
  cases hj : l[j]? with
  | none => rw [hj] at hu; cases hu
  | some x => rw [hj] at hu; cases hu; rw [Nat.zero_add]; exact h.at hj
end

/-- What a function of the document hands back: a list, the one that came in or a new one. -/
def Listed (w : World) (a0 : Option Addr) (n c : Nat) (l : List Int) (z : Int) (e : Ending) (w' : World) : Prop :=
  ∃ a' n' c', e = .returned (.tuple #[.slice a' n' c', .int .i64 z]) ∧ IsInts w' a' n' c' l ∧ Below w.heap.size w w' ∧ ((a' = a0 ∧ n' = n ∧ c' = c) ∨ ∃ g, a' = some ⟨g, 0, none⟩ ∧ w.heap.size ≤ g)

theorem row_cells {w : World} {b off n c : Nat} {xs : List Int} (h : IsInts w (some ⟨b, off, none⟩) n c xs) (h1 : 1 ≤ n) : ∀ j u, (xs.map (Value.int .i64))[j]? = some u → (w.alloc (.cells #[] 3)).cell? ((⟨b, off, none⟩ : Addr).add j) = some u := by
  obtain ⟨b2, off2, he, hc⟩ := h.reads.2 (by omega)
  cases he
  intro j u hu
  have h2 := hc j u hu
  have h3 : (w.alloc (.cells #[] 3)).cell? ⟨b, off + j, none⟩ = some u := keep ((Below.refl _ _).alloc (Nat.le_refl _) _) h2
  unfold Addr.add
  split
  · rename_i h0; subst h0; exact h3
  · exact h3

set_option maxRecDepth 20000 in
set_option maxHeartbeats 1000000 in
theorem rtick_calls {w : World} {a0 : Option Addr} {n c : Nat} {l : List Int} (h : IsInts w a0 n c l) (h8 : n ≤ 8) (t : Int) :
    Calls Try.prog 37 #[.slice a0 n c, .int .i64 t] w (Listed w a0 n c (tickS l t).1 (tickS l t).2) := by
  have hl := h.len
  by_cases ht : 0 ≤ t ∧ t < n
  case neg =>
    have hf : (decide (0 ≤ t) && decide (t < l.length)) = false := by rw [Bool.eq_false_iff, hl]; simpa using ht
    have hp : Listed w a0 n c (tickS l t).1 (tickS l t).2 (.returned (.tuple #[.slice a0 n c, .int .i64 2])) w := by
      have : tickS l t = (l, 2) := by unfold tickS; rw [hf]; rfl
      rw [this]; exact ⟨_, _, _, rfl, h, Below.refl _ _, .inl ⟨rfl, rfl, rfl⟩⟩
    have Hp := Lib.hid hp
    clear hp hf h hl
    by_cases h0 : t < 0
    · go_enter Try.func37, Try.ntmps37
      go_wp2
      go_returns
      exact Hp.out
    · have h1 : (n : Int) ≤ t := by omega
      clear ht
      go_enter Try.func37, Try.ntmps37
      go_wp2
      go_returns
      exact Hp.out
  case pos =>
    obtain ⟨h0, h1⟩ := ht
    obtain ⟨k, rfl⟩ := Int.eq_ofNat_of_zero_le h0
    have hk : k < n := by omega
    obtain ⟨b, off, x, rfl, hx, hfx, c1⟩ := h.at hk
    have hlo := hfx.lo
    have hhi := hfx.hi
    have hg : l.getD k 0 = x := by simp [List.getD, hx]
    have hf : (decide ((0 : Int) ≤ k) && decide ((k : Int) < l.length)) = true := by rw [hl]; simp [hk]
    by_cases hmx : (x == 9223372036854775807) = true
    · have hp : Listed w (some ⟨b, off, none⟩) n c (tickS l k).1 (tickS l k).2 (.returned (.tuple #[.slice (some ⟨b, off, none⟩) n c, .int .i64 1])) w := by
        have : tickS l k = (l, 1) := by unfold tickS; rw [hf, Int.toNat_natCast, hg, if_pos rfl, if_pos hmx]
        rw [this]; exact ⟨_, _, _, rfl, h, Below.refl _ _, .inl ⟨rfl, rfl, rfl⟩⟩
      have Hp := Lib.hid hp
      clear hp hf hx hg hfx h hl
      go_enter Try.func37, Try.ntmps37
      go_wp2
      go_returns
      exact Hp.out
    · have hmx : (x == 9223372036854775807) = false := by simpa using hmx
      have hx1 : x + 1 ≤ 9223372036854775807 := by have := beq_eq_false_iff_ne.1 hmx; omega
      have hs : tickS l k = (l.set k (x + 1), 0) := by unfold tickS; rw [hf, Int.toNat_natCast, hg, if_pos rfl, hmx]; rfl
      have Hs := Lib.hid hs
      have Hn := Lib.hid (row_cells h (by omega))
      have Hl := Lib.hid hl
      have Hw := Lib.hid h.wf
      have Hx := Lib.hid hx
      obtain ⟨i0, hi, hz0, hz1, hz2⟩ := info_parts infoInt
      have Hi := Lib.hid hi
      have Hz0 := Lib.hid hz0
      have Hz1 := Lib.hid hz1
      have Hz2 := Lib.hid hz2
      clear hs hf hx hg hfx h hl hi hz0 hz1 hz2
      go_enter Try.func37, Try.ntmps37
      go_wp2_with (at_builtin; go_loud (refine wpList_append_own _ rfl (.tmp 22) (.tmp 23) 22 rfl w.heap.size 3 i0 (.int .i64 0) 1 8 Try.underlying22 Hi.out Hz0.out Hz1.out Hz2.out rfl (by decide) _ 0 [] rfl (World.ownsRow_made w #[] 0 (Nat.le_refl _) (Nat.zero_le _) rfl) ⟨b, off, none⟩ n c (l.map (Value.int .i64)) rfl (by simp [Hl.out]) Hn.out (by simp [Value.oneCell']) (by unfold maxLen; omega) (by omega) (by simp) ?_); intro v' w' hown hg _; obtain ⟨g, cap, rfl, hlen, hrow, hgb⟩ := RowAt.of_own (xs := l) (by simpa using hown) (by omega) Hw.out; have hbel : Below w.heap.size w w' := ((Below.refl _ _).alloc (Nat.le_refl _) _).grown hg (by simp) (fun k hk => by cases hk; exact Nat.le_refl _); have d1 := hrow.at Hx.out; have d2 := hrow.free k; have hrow2 := hrow.set (i := k) (Fit.of (z := x + 1) (by omega) hx1); have Hr := Lib.hid hrow2; have Hb := Lib.hid (hbel.setCell (p := ⟨g, k, none⟩) hgb (.int .i64 (x + 1))); clear hown hg hrow hrow2 hbel)
      go_returns
      rw [Hs.out]
      exact ⟨_, _, _, rfl, by have := Hr.out.ints; rwa [List.length_set, Hl.out] at this, Hb.out, .inr ⟨g, rfl, hgb⟩⟩

set_option maxRecDepth 20000 in
set_option maxHeartbeats 2000000 in
theorem rjoin_calls {w : World} {a0 b0 : Option Addr} {n c m d : Nat} {l o : List Int} (h : IsInts w a0 n c l) (h' : IsInts w b0 m d o) (h1 : 1 ≤ n) (h8 : n ≤ 8) :
    Calls Try.prog 38 #[.slice a0 n c, .slice b0 m d] w (Listed w a0 n c (joinS l o).1 (joinS l o).2) := by
  have hl := h.len
  have hl' := h'.len
  by_cases hnm : n = m
  case neg =>
    have hp : Listed w a0 n c (joinS l o).1 (joinS l o).2 (.returned (.tuple #[.slice a0 n c, .int .i64 130])) w := by
      have : joinS l o = (l, 130) := by unfold joinS; rw [hl, hl', if_neg hnm]
      rw [this]; exact ⟨_, _, _, rfl, h, Below.refl _ _, .inl ⟨rfl, rfl, rfl⟩⟩
    have Hp := Lib.hid hp
    have hnm' : ¬ (n : Int) = m := by omega
    clear hp h hl h' hl'
    go_enter Try.func38, Try.ntmps38
    go_wp2
    go_returns
    exact Hp.out
  case pos =>
    subst hnm
    obtain ⟨b, off, hc⟩ := h.reads.2 (by omega)
    obtain ⟨rfl, _⟩ := hc
    have hs : joinS l o = (List.zipWith max l o, 0) := by unfold joinS; rw [hl, hl', if_pos rfl]
    have Hs := Lib.hid hs
    have Hn := Lib.hid (row_cells h h1)
    have Hl := Lib.hid hl
    have Hlo := Lib.hid (show l.length = o.length by rw [hl, hl'])
    have Hw := Lib.hid h.wf
    have H' := Lib.hid h'
    obtain ⟨i0, hi, hz0, hz1, hz2⟩ := info_parts infoInt
    have Hi := Lib.hid hi
    have Hz0 := Lib.hid hz0
    have Hz1 := Lib.hid hz1
    have Hz2 := Lib.hid hz2
    clear hs h hl h' hl' hi hz0 hz1 hz2
    go_enter Try.func38, Try.ntmps38
    go_wp2_with (at_builtin; go_loud (refine wpList_append_own _ rfl (.tmp 14) (.tmp 15) 22 rfl w.heap.size 3 i0 (.int .i64 0) 1 8 Try.underlying22 Hi.out Hz0.out Hz1.out Hz2.out rfl (by decide) _ 0 [] rfl (World.ownsRow_made w #[] 0 (Nat.le_refl _) (Nat.zero_le _) rfl) ⟨b, off, none⟩ n c (l.map (Value.int .i64)) rfl (by simp [Hl.out]) Hn.out (by simp [Value.oneCell']) (by unfold maxLen; omega) (by omega) (by simp) ?_); intro v' w1 hown hg hnl; clear hnl; obtain ⟨g, cap, rfl, hlen, hrow, hgb⟩ := RowAt.of_own (xs := l) (by simpa using hown) (by omega) Hw.out; have hB1 : Below w.heap.size w w1 := ((Below.refl _ _).alloc (Nat.le_refl _) _).grown hg (by simp) (fun k hk => by cases hk; exact Nat.le_refl _); have Hr := Lib.hid hrow; clear hown hg hrow hlen)
    go_loopw [7] (fun v wr => ∃ k : Nat, k ≤ n ∧ v = .int .i64 k ∧ Hid (RowAt wr g cap (joinTo l o k)) ∧ Below w.heap.size w wr) (fun v _ => n - (intOf v).toNat)
    case atStart => exact ⟨0, Nat.zero_le _, rfl, by rw [joinTo_zero]; exact Hr.out, hB1⟩
    case round =>
      obtain ⟨k, hk, rfl, Hk, hB⟩ := hrel
      by_cases hlt : k < n
      · obtain ⟨b', off', y, rfl, hy, hfy, c2⟩ := H'.out.at hlt
        obtain ⟨x, hx⟩ : ∃ x, l[k]? = some x := ⟨_, List.getElem?_eq_getElem (by rw [Hl.out]; exact hlt)⟩
        have hfx := Hw.out x (List.mem_of_getElem? hx)
        have c2 := keep hB c2
        have d1 := Hk.out.at (joinTo_get Hlo.out hx)
        have Hx := Lib.hid (And.intro hx (And.intro hy (And.intro hfx hfy)))
        clear hx hy hfx hfy
        by_cases hxy : y > x
        · have Hq : Hid (max x y = y) := by unfold Hid; omega
          go_wp2_with fail
          refine wp_ext_draw 12 mixed (by kernel_rfl) ?_
          simp only [List.take_succ_cons, List.take_zero, List.drop_succ_cons, List.drop_zero]
          repeat ((first | ((apply TextRun.go rfl rfl rfl); (intro w1 hS K hK; have hc := bcell hS; have hs := blt hS; have c2 := keep hS c2; have d1 := keep hS d1; go_wp2_with (fail); first | exact hS | exact hS.trans (hb.mono hS.size))) | (refine TextRun.skip rfl ?_) | ((refine TextRun.wantedT rfl rfl rfl ?_); (apply Exists.intro); (apply And.intro); (intro w1 hS K hK; have hc := bcell hS; have hs := blt hS; have c2 := keep hS c2; have d1 := keep hS d1; go_wp2_with (fail); first | exact hS | exact hS.trans (hb.mono hS.size)))); (simp only [Act.put, List.setIfInBounds_toArray, List.set_cons_zero, List.set_cons_succ]))
          refine TextRun.done ?_
          intro w2 hb
          have hB2 : Below w.heap.size w w2 := hB.trans (hb.mono hB.size)
          have hR2 := Hk.out.below hb
          have d2 := keep hb d1
          have d3 := hR2.free k
          have hR3 := hR2.set (i := k) (max_fit Hx.out.2.2.1 Hx.out.2.2.2)
          rw [← joinTo_succ Hlo.out Hx.out.1 Hx.out.2.1, Hq.out] at hR3
          have HR3 := Lib.hid hR3
          have HB3 := Lib.hid (hB2.setCell (p := ⟨g, k, none⟩) hgb (.int .i64 y))
          clear hR2 hR3 hb hB hB2 c2 d1 Hk
          go_wp2
          go_roundw
          case rel => exact ⟨k + 1, by omega, by go_num, HR3.out, HB3.out⟩
          case measure => simp [intOf]; omega
        · have Hq : Hid (max x y = x) := by unfold Hid; omega
          go_wp2_with fail
          refine wp_ext_draw 12 mixed (by kernel_rfl) ?_
          simp only [List.take_succ_cons, List.take_zero, List.drop_succ_cons, List.drop_zero]
          repeat ((first | ((apply TextRun.go rfl rfl rfl); (intro w1 hS K hK; have hc := bcell hS; have hs := blt hS; have c2 := keep hS c2; have d1 := keep hS d1; go_wp2_with (fail); first | exact hS | exact hS.trans (hb.mono hS.size))) | (refine TextRun.skip rfl ?_) | ((refine TextRun.wantedT rfl rfl rfl ?_); (apply Exists.intro); (apply And.intro); (intro w1 hS K hK; have hc := bcell hS; have hs := blt hS; have c2 := keep hS c2; have d1 := keep hS d1; go_wp2_with (fail); first | exact hS | exact hS.trans (hb.mono hS.size)))); (simp only [Act.put, List.setIfInBounds_toArray, List.set_cons_zero, List.set_cons_succ]))
          refine TextRun.done ?_
          intro w2 hb
          have hB2 : Below w.heap.size w w2 := hB.trans (hb.mono hB.size)
          have hR2 := Hk.out.below hb
          have d2 := keep hb d1
          have d3 := hR2.free k
          have hR3 := hR2.set (i := k) (max_fit Hx.out.2.2.1 Hx.out.2.2.2)
          rw [← joinTo_succ Hlo.out Hx.out.1 Hx.out.2.1, Hq.out] at hR3
          have HR3 := Lib.hid hR3
          have HB3 := Lib.hid (hB2.setCell (p := ⟨g, k, none⟩) hgb (.int .i64 x))
          clear hR2 hR3 hb hB hB2 c2 d1 Hk
          go_wp2
          go_roundw
          case rel => exact ⟨k + 1, by omega, by go_num, HR3.out, HB3.out⟩
          case measure => simp [intOf]; omega
      · have hkn : k = n := by omega
        have hfin := Hk.out.ints
        rw [hkn, show n = l.length from Hl.out.symm, joinTo_all Hlo.out] at hfin
        rw [show (List.zipWith max l o).length = l.length from zip_len Hlo.out, Hl.out] at hfin
        have Hf := Lib.hid hfin
        have HB := Lib.hid hB
        clear hfin hB Hk
        go_wp2
        go_returns
        rw [Hs.out]
        exact ⟨_, _, _, rfl, Hf.out, HB.out, .inr ⟨g, rfl, hgb⟩⟩
end Go.Proofs.Ytngmcbliihohcaa
