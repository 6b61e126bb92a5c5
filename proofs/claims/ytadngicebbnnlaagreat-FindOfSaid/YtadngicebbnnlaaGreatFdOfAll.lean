/-
  FindOf: the document's Put, Schedule, stuck and Of, and the law.
-/
import Derived.Test.YtadngicebbnnlaaGreatFindA
set_option linter.unusedSimpArgs false
set_option linter.unusedVariables false
namespace Go.Proofs.YtadngicebbnnlaaGreat
open Go.ChangeShapes Go.WideShapes Go.ChangeAt Go.RowKit Go.Deep

theorem OwnL.nilcap {α : Type} {E : Elt α} {w : World} {B n c : Nat} {xs : List α} (h : OwnL E w B (.slice none n c) xs) : c = 0 := by
  rcases h.own.2 with ⟨h0, _⟩ | ⟨g, cap, cur, h1, _⟩
  · cases h0; rfl
  · cases h1
set_option maxRecDepth 20000 in
set_option maxHeartbeats 4000000 in
theorem rsched_calls {w : World} {a0 : Option Addr} {n c : Nat} {l : List Ev} (h : IsEvs w a0 n c l) (hn : n ≤ 1000) :
    Calls Tryz.prog 30 #[.slice a0 n c] w fun e w' => ∃ a cc, e = .returned (.slice a n cc) ∧ IsInts w' a n cc (l.map Ev.t) ∧ (a = none → cc = 0) ∧ Below w.heap.size w w' := by
  have Hev := Lib.hid h
  clear h
  go_enter Tryz.func30, Tryz.ntmps30
  go_wp2_with fail
  go_loopw [3, 4] (fun u x wr => ∃ i : Nat, i ≤ n ∧ x = .int .i64 i ∧ Hid (OwnL eltI wr w.heap.size u ((l.map Ev.t).take i) ∧ Below w.heap.size w wr)) (fun _ x _ => n - (intOf x).toNat)
  case atStart => exact ⟨0, Nat.zero_le _, by go_num, OwnL.nil .., Below.refl ..⟩
  case round =>
    obtain ⟨i, hi, rfl, HL⟩ := hrel
    by_cases hin : i < n
    · obtain ⟨b, off, x, rfl, hx, _, c0, _⟩ := (Hev.out.below HL.out.2).at hin
      have Htk : Hid ((l.map Ev.t).take (i + 1) = (l.map Ev.t).take i ++ [x.t]) := by
        rw [Hid, List.take_add_one, List.getElem?_map, hx]; rfl
      have hcap : ((l.map Ev.t).take i).length < 1000000 := by rw [List.length_take]; omega
      obtain ⟨xt, xk, xo, xv, xb⟩ := x
      simp only at c0 Htk
      clear hx
      go_wp2_with (at_builtin; go_loud (refine wpList_push eltI rfl (.tmp 11) (.tmp 17) rfl xt rfl rfl rfl HL.out.1 HL.out.2.size hcap ?_))
      intro v' y hown hw _
      have HN : Hid (OwnL eltI y w.heap.size v' ((l.map Ev.t).take (i + 1)) ∧ Below w.heap.size w y) := by
        rw [Hid, Htk.out]
        exact ⟨hown, Wrote.below HL.out.2 hw HL.out.2.size (fun q hq => (HL.out.1.lt hq).1)⟩
      clear hown hw HL Htk c0
      go_wp2
      go_roundw
      case rel => exact ⟨i + 1, hin, by go_num, HN.out⟩
      case measure => exact measD hin
    · have hin : i = n := Nat.le_antisymm hi (Nat.le_of_not_lt hin)
      subst hin
      have hl : (l.map Ev.t).take i = l.map Ev.t := List.take_of_length_le (by rw [List.length_map, Hev.out.len]; exact Nat.le_refl _)
      rw [hl] at HL
      obtain ⟨a, cc, rfl, hI⟩ := HL.out.1.ints (fun x hx => by
        obtain ⟨e, he, rfl⟩ := List.mem_map.1 hx
        exact (Hev.out.wf e he).1)
      have hlen : (l.map Ev.t).length = i := by rw [List.length_map, Hev.out.len]
      rw [hlen] at hI ⊢
      have hnc : a = none → cc = 0 := fun h => by
        have ho := HL.out.1
        rw [h] at ho
        exact ho.nilcap
      have Hq := Lib.hid (And.intro hI (And.intro hnc HL.out.2))
      clear hI hnc HL hl
      go_wp2
      go_ret
      exact ⟨a, cc, rfl, Hq.out.1, Hq.out.2.1, Hq.out.2.2⟩

def stepFr (f : Fr) (s : List Fr × Bool) (g : Fr) : List Fr × Bool := if cmpF f.fd g.fd < 0 ∧ s.2 = false then (s.1 ++ [f, g], true) else (s.1 ++ [g], s.2)
def stFr (f : Fr) (l : List Fr) (i : Nat) : List Fr × Bool := (l.take i).foldl (stepFr f) ([], false)
theorem stFr_succ {f g : Fr} {l : List Fr} {i : Nat} (h : l[i]? = some g) : stFr f l (i + 1) = stepFr f (stFr f l i) g := by
  unfold stFr
  rw [List.take_add_one, h, List.foldl_append]; rfl
theorem stFr_fold (f : Fr) : ∀ (l : List Fr) (s : List Fr × Bool), ((l.foldl (stepFr f) s).1.map Fr.fd, (l.foldl (stepFr f) s).2) = (l.map Fr.fd).foldl (stepF f.fd) (s.1.map Fr.fd, s.2)
  | [], s => rfl
  | g :: l, s => by
    rw [List.foldl_cons, List.map_cons, List.foldl_cons, stFr_fold f l]
    congr 1
    unfold stepFr stepF
    simp only
    split <;> simp
theorem stFr_map (f : Fr) (l : List Fr) (i : Nat) : (stFr f l i).1.map Fr.fd = (stF f.fd (l.map Fr.fd) i).1 ∧ (stFr f l i).2 = (stF f.fd (l.map Fr.fd) i).2 := by
  have h := stFr_fold f (l.take i) ([], false)
  rw [List.map_take] at h
  unfold stFr stF
  exact ⟨congrArg Prod.fst h, congrArg Prod.snd h⟩
theorem stFr_mem (f : Fr) : ∀ (l : List Fr) (s : List Fr × Bool) (r : Fr), r ∈ (l.foldl (stepFr f) s).1 → r ∈ s.1 ∨ r ∈ l ∨ r = f
  | [], s, r, h => .inl h
  | g :: l, s, r, h => by
    rw [List.foldl_cons] at h
    rcases stFr_mem f l _ r h with h | h | h
    · unfold stepFr at h
      split at h
      · simp only [List.mem_append, List.mem_cons, List.not_mem_nil, or_false] at h
        rcases h with h | h | h
        · exact .inl h
        · exact .inr (.inr h)
        · exact .inr (.inl (by rw [h]; exact List.mem_cons_self ..))
      · simp only [List.mem_append, List.mem_cons, List.not_mem_nil, or_false] at h
        rcases h with h | h
        · exact .inl h
        · exact .inr (.inl (by rw [h]; exact List.mem_cons_self ..))
    · exact .inr (.inl (List.mem_cons_of_mem _ h))
    · exact .inr (.inr h)
theorem stFr_in {f : Fr} {l : List Fr} {i : Nat} {r : Fr} (h : r ∈ (stFr f l i).1) : r ∈ l ∨ r = f := by
  rcases stFr_mem f _ _ r h with h | h | h
  · cases h
  · exact .inl (List.mem_of_mem_take h)
  · exact .inr h
theorem stFr_len (f : Fr) (l : List Fr) {i : Nat} (hi : i ≤ l.length) : (stFr f l i).1.length ≤ i + 1 := by
  have h := (stF_len f.fd (l.map Fr.fd) i (by rw [List.length_map]; exact hi)).1
  rw [← (stFr_map f l i).1, List.length_map] at h
  exact h
theorem any_take {l : List Fr} {f : Fr} {i : Nat} {g : Fr} (h : l[i]? = some g) : ((l.take (i + 1)).map Fr.fd).any (sameB f.fd) = (((l.take i).map Fr.fd).any (sameB f.fd) || sameB f.fd g.fd) := by
  rw [List.take_add_one, h]; simp

def PutPost (w : World) (n : Nat) (R : List Fr) (f : Fr) (e : Ending) (w' : World) : Prop :=
  ∃ (x : Option Addr) (k cx : Nat) (R' : List Fr), e = .returned (.slice x k cx) ∧ IsFds w' x k cx R' ∧ R'.map Fr.fd = putF (R.map Fr.fd) f.fd ∧ k ≤ n + 1 ∧ Below w.heap.size w w'
set_option maxRecDepth 20000 in
set_option maxHeartbeats 16000000 in
theorem rput_calls {w : World} {a0 : Option Addr} {n c : Nat} {R : List Fr} (h : IsFds w a0 n c R) (hn : n < 100000) (xk xt xo xx : Int) (xa : Option Addr) (xn xc : Nat) (xs : List Int) (hw : Fr.wf ⟨xk, xt, xo, xx, xa, xn, xc, xs⟩) (hs : SchAt w ⟨xk, xt, xo, xx, xa, xn, xc, xs⟩) :
    Calls Tryz.prog 31 #[.slice a0 n c, .agg #[.int .i64 xk, .int .i64 xt, .int .i64 xo, .int .i64 xx, .slice xa xn xc]] w (PutPost w n R ⟨xk, xt, xo, xx, xa, xn, xc, xs⟩) := by
  have HR := Lib.hid h
  have Hw := Lib.hid hw
  have Hs := Lib.hid hs
  have hlen := h.len
  have hN := one_newF w #[.int .i64 xk, .int .i64 xt, .int .i64 xo, .int .i64 xx, .slice xa xn xc] 58
  have HN0 := Lib.hid hN
  clear h hw hs hN
  go_enter Tryz.func31, Tryz.ntmps31
  go_wp2_with fail
  revert HN0
  generalize w.alloc (.cells #[.int .i64 xk, .int .i64 xt, .int .i64 xo, .int .i64 xx, .slice xa xn xc] 58) = w1
  intro HN0
  have HB1 := Lib.hid HN0.out.2
  have e0 : w1.cell? ⟨w.heap.size, 0, none⟩ = some (.int .i64 xk) := cell_of_block HN0.out.1
  have e1 : w1.cell? ⟨w.heap.size, 1, none⟩ = some (.int .i64 xt) := cell_of_block HN0.out.1
  have e2 : w1.cell? ⟨w.heap.size, 2, none⟩ = some (.int .i64 xo) := cell_of_block HN0.out.1
  have e3 : w1.cell? ⟨w.heap.size, 3, none⟩ = some (.int .i64 xx) := cell_of_block HN0.out.1
  have e4 : w1.cell? ⟨w.heap.size, 4, none⟩ = some (.slice xa xn xc) := cell_of_block HN0.out.1
  have HE := Lib.hid (And.intro e0 (And.intro e1 (And.intro e2 (And.intro e3 e4))))
  clear HN0 e0 e1 e2 e3 e4
  obtain ⟨f, hf⟩ : ∃ f : Fr, f = ⟨xk, xt, xo, xx, xa, xn, xc, xs⟩ := ⟨_, rfl⟩
  rw [← hf]
  have Hf := Lib.hid hf
  clear hf
  go_loopw [5, 6, 7] (fun u d x wr => ∃ (i : Nat) (dn : Bool), i ≤ n ∧ x = .int .i64 i ∧ d = .bool dn ∧ Hid (OwnL eltFr wr w1.heap.size u (stFr f R i).1 ∧ dn = (stFr f R i).2 ∧ ((R.take i).map Fr.fd).any (sameB f.fd) = false ∧ Below w1.heap.size w1 wr)) (fun _ _ x _ => n - (intOf x).toNat)
  case atStart => exact ⟨0, false, Nat.zero_le _, by go_num, rfl, OwnL.nil .., rfl, rfl, Below.refl ..⟩
  case round =>
    obtain ⟨i, dn, hi, rfl, rfl, HL⟩ := hrel
    have hnb := HR.out.bd
    by_cases hin : i < n
    · have hcap := stFr_len f R (show i ≤ R.length by rw [hlen]; exact hi)
      have hBw : Below w.heap.size w wr := HB1.out.trans (HL.out.2.2.2.mono HB1.out.size)
      obtain ⟨b, off, g, rfl, hg, _, _, d0, d1, d2, d3, d4⟩ := (HR.out.below hBw).at hin
      obtain ⟨e0, e1, e2, e3, e4⟩ := HE.out
      have e0 := keep HL.out.2.2.2 e0
      have e1 := keep HL.out.2.2.2 e1
      have e2 := keep HL.out.2.2.2 e2
      have e3 := keep HL.out.2.2.2 e3
      have e4 := keep HL.out.2.2.2 e4
      have Hc := Lib.hid (fun W => rfcmp_calls xk xt xo xx g.k g.t g.o g.x xa g.a xn xc g.n g.c W)
      have hcm : cmp4 xk xt xo xx g.k g.t g.o g.x = cmpF f.fd g.fd := by rw [Hf.out]; rfl
      have Hz : Hid (cmp4 xk xt xo xx g.k g.t g.o g.x = 0 ↔ sameB f.fd g.fd = true) := by rw [Hid, hcm, cmpF_zero, sameB_iff]
      have Hst : Hid (stFr f R (i + 1) = if cmp4 xk xt xo xx g.k g.t g.o g.x < 0 ∧ (stFr f R i).2 = false then ((stFr f R i).1 ++ [f, g], true) else ((stFr f R i).1 ++ [g], (stFr f R i).2)) := by rw [Hid, stFr_succ hg, hcm]; rfl
      have Hany := Lib.hid (any_take (f := f) hg)
      have Hgm := Lib.hid (List.mem_of_getElem? hg)
      have Hgy := Lib.hid hg
      obtain ⟨yk, yt, yo, yx, ya, yn, yc, ys⟩ := g
      simp only at d0 d1 d2 d3 d4 Hc Hz Hst
      clear hg hcm
      revert Hc Hz Hst
      generalize cmp4 xk xt xo xx yk yt yo yx = r
      intro Hc Hz Hst
      go_wp2_with fail
      refine wp_ext_draw 7 mixed (by kernel_rfl) ?_
      simp only [List.take_succ_cons, List.take_zero, List.drop_succ_cons, List.drop_zero]
      repeat ((first | ((apply TextRun.go rfl rfl rfl); (focus (intro w1 hS K hK; have hc := bcell hS; have hs := blt hS; have e0 := keep hS e0; have e1 := keep hS e1; have e2 := keep hS e2; have e3 := keep hS e3; have e4 := keep hS e4; have d0 := keep hS d0; have d1 := keep hS d1; have d2 := keep hS d2; have d3 := keep hS d3; have d4 := keep hS d4; go_wp2_with ((with_reducible refine (Hc.out _).mono ?_); rintro e w' ⟨rfl, hb⟩); first | done | exact hS | exact hS.trans (hb.mono hS.size)))) | (refine TextRun.skip rfl ?_) | ((refine TextRun.wantedT rfl rfl rfl ?_); (apply Exists.intro); (apply And.intro); (focus (intro w1 hS K hK; have hc := bcell hS; have hs := blt hS; have e0 := keep hS e0; have e1 := keep hS e1; have e2 := keep hS e2; have e3 := keep hS e3; have e4 := keep hS e4; have d0 := keep hS d0; have d1 := keep hS d1; have d2 := keep hS d2; have d3 := keep hS d3; have d4 := keep hS d4; go_wp2_with ((with_reducible refine (Hc.out _).mono ?_); rintro e w' ⟨rfl, hb⟩); first | done | exact hS | exact hS.trans (hb.mono hS.size))))); (simp only [Act.put, List.setIfInBounds_toArray, List.set_cons_zero, List.set_cons_succ]))
      refine TextRun.done ?_
      intro y2 hb
      have HL2 := Lib.hid (And.intro (HL.out.1.below hb) (And.intro HL.out.2.1 (And.intro HL.out.2.2.1 (HL.out.2.2.2.trans (hb.mono HL.out.2.2.2.size)))))
      have e0 := keep hb e0
      have e1 := keep hb e1
      have e2 := keep hb e2
      have e3 := keep hb e3
      have e4 := keep hb e4
      have d0 := keep hb d0
      have d1 := keep hb d1
      have d2 := keep hb d2
      have d3 := keep hb d3
      have d4 := keep hb d4
      clear hb HL Hc hBw
      by_cases hr0 : r = 0
      · have hrb : (r == 0) = true := by rw [hr0]; rfl
        have hbw : Below w.heap.size w y2 := HB1.out.trans (HL2.out.2.2.2.mono HB1.out.size)
        have Hq : Hid (PutPost w n R f (.returned (.slice (some ⟨b, off, none⟩) n c)) y2) := by
          refine ⟨_, n, c, R, rfl, HR.out.below hbw, ?_, by omega, hbw⟩
          unfold putF
          rw [if_pos (List.any_eq_true.2 ⟨_, List.mem_map.2 ⟨_, Hgm.out, rfl⟩, Hz.out.1 hr0⟩)]
        clear hr0 hbw Hz Hst Hany Hgm HL2 e0 e1 e2 e3 e4 d0 d1 d2 d3 d4
        go_wp2
        go_ret
        exact Hq.out
      have hrb : (r == 0) = false := by simpa using hr0
      have Hno : Hid (((R.take (i + 1)).map Fr.fd).any (sameB f.fd) = false) := by
        rw [Hid, Hany.out, HL2.out.2.2.1]
        cases hs : sameB f.fd (⟨yk, yt, yo, yx, ya, yn, yc, ys⟩ : Fr).fd
        · rfl
        · exact absurd (Hz.out.2 hs) hr0
      clear hr0 Hz Hany Hgm
      by_cases hlt : r < 0 ∧ dn = false
      · obtain ⟨hl1, rfl⟩ := hlt
        have hdl : decide (r < 0) = true := decide_eq_true hl1
        have Hst2 : Hid (stFr f R (i + 1) = ((stFr f R i).1 ++ [f, (⟨yk, yt, yo, yx, ya, yn, yc, ys⟩ : Fr)], true)) := by
          rw [Hid, Hst.out, if_pos ⟨hl1, HL2.out.2.1.symm⟩]
        have hcap1 : (stFr f R i).1.length < 1000000 := by omega
        clear hl1 Hst
        go_wp2_with (at_builtin; go_loud (refine wpList_push eltFr rfl (.tmp 30) (.tmp 32) rfl (⟨xk, xt, xo, xx, xa, xn, xc, xs⟩ : Fr) rfl rfl rfl HL2.out.1 HL2.out.2.2.2.size hcap1 ?_))
        intro v1 y3 ho1 hw1 _
        have HB3 : Hid (Below w1.heap.size w1 y3) := Wrote.below HL2.out.2.2.2 hw1 HL2.out.2.2.2.size (fun q hq => (HL2.out.1.lt hq).1)
        have HO1 := Lib.hid ho1
        have hbw3 : Below w.heap.size w y3 := HB1.out.trans (HB3.out.mono HB1.out.size)
        obtain ⟨b', off', g', he', hg', _, _, d0', d1', d2', d3', d4'⟩ := (HR.out.below hbw3).at hin
        cases he'
        have hcap2 : ((stFr f R i).1 ++ [(⟨xk, xt, xo, xx, xa, xn, xc, xs⟩ : Fr)]).length < 1000000 := by rw [List.length_append]; simp; omega
        have hgg : g' = (⟨yk, yt, yo, yx, ya, yn, yc, ys⟩ : Fr) := by
          have := Hgy.out.symm.trans hg'
          exact (Option.some.inj this).symm
        subst hgg
        simp only at d0' d1' d2' d3' d4'
        clear ho1 hw1 d0 d1 d2 d3 d4 e0 e1 e2 e3 e4 hbw3 hg' hcap1
        go_wp2_with (at_builtin; go_loud (refine wpList_push eltFr rfl (.tmp 34) (.tmp 39) rfl (⟨yk, yt, yo, yx, ya, yn, yc, ys⟩ : Fr) rfl rfl rfl HO1.out HB3.out.size hcap2 ?_))
        intro v2 y4 ho2 hw2 _
        have HN : Hid (OwnL eltFr y4 w1.heap.size v2 (stFr f R (i + 1)).1 ∧ true = (stFr f R (i + 1)).2 ∧ ((R.take (i + 1)).map Fr.fd).any (sameB f.fd) = false ∧ Below w1.heap.size w1 y4) := by
          rw [Hid, Hst2.out]
          refine ⟨?_, rfl, Hno.out, Wrote.below HB3.out hw2 HB3.out.size (fun q hq => (HO1.out.lt hq).1)⟩
          have h2 : OwnL eltFr y4 w1.heap.size v2 ((stFr f R i).1 ++ [(⟨xk, xt, xo, xx, xa, xn, xc, xs⟩ : Fr), (⟨yk, yt, yo, yx, ya, yn, yc, ys⟩ : Fr)]) := by simpa using ho2
          rw [Hf.out] at h2 ⊢
          exact h2
        clear ho2 hw2 HO1 HB3 Hst2 HL2 d0' d1' d2' d3' d4'
        go_wp2
        go_roundw
        case rel => exact ⟨i + 1, true, hin, by go_num, rfl, HN.out⟩
        case measure => exact measD hin
      · have Hst2 : Hid (stFr f R (i + 1) = ((stFr f R i).1 ++ [(⟨yk, yt, yo, yx, ya, yn, yc, ys⟩ : Fr)], dn)) := by
          rw [Hid, Hst.out, if_neg (fun e => hlt ⟨e.1, HL2.out.2.1.trans e.2⟩), ← HL2.out.2.1]
        have hcap1 : (stFr f R i).1.length < 1000000 := by omega
        clear Hst
        by_cases hl1 : r < 0
        · obtain rfl : dn = true := by
            cases dn
            · exact absurd ⟨hl1, rfl⟩ hlt
            · rfl
          have hdl : decide (r < 0) = true := decide_eq_true hl1
          clear hl1 hlt
          go_wp2_with (at_builtin; go_loud (refine wpList_push eltFr rfl (.tmp 34) (.tmp 39) rfl (⟨yk, yt, yo, yx, ya, yn, yc, ys⟩ : Fr) rfl rfl rfl HL2.out.1 HL2.out.2.2.2.size hcap1 ?_))
          intro v2 y4 ho2 hw2 _
          have HN : Hid (OwnL eltFr y4 w1.heap.size v2 (stFr f R (i + 1)).1 ∧ true = (stFr f R (i + 1)).2 ∧ ((R.take (i + 1)).map Fr.fd).any (sameB f.fd) = false ∧ Below w1.heap.size w1 y4) := by
            rw [Hid, Hst2.out]
            exact ⟨ho2, rfl, Hno.out, Wrote.below HL2.out.2.2.2 hw2 HL2.out.2.2.2.size (fun q hq => (HL2.out.1.lt hq).1)⟩
          clear ho2 hw2 Hst2 HL2 d0 d1 d2 d3 d4 e0 e1 e2 e3 e4
          go_wp2
          go_roundw
          case rel => exact ⟨i + 1, true, hin, by go_num, rfl, HN.out⟩
          case measure => exact measD hin
        · have hdl : decide (r < 0) = false := decide_eq_false hl1
          clear hl1 hlt
          go_wp2_with (at_builtin; go_loud (refine wpList_push eltFr rfl (.tmp 34) (.tmp 39) rfl (⟨yk, yt, yo, yx, ya, yn, yc, ys⟩ : Fr) rfl rfl rfl HL2.out.1 HL2.out.2.2.2.size hcap1 ?_))
          intro v2 y4 ho2 hw2 _
          have HN : Hid (OwnL eltFr y4 w1.heap.size v2 (stFr f R (i + 1)).1 ∧ dn = (stFr f R (i + 1)).2 ∧ ((R.take (i + 1)).map Fr.fd).any (sameB f.fd) = false ∧ Below w1.heap.size w1 y4) := by
            rw [Hid, Hst2.out]
            exact ⟨ho2, rfl, Hno.out, Wrote.below HL2.out.2.2.2 hw2 HL2.out.2.2.2.size (fun q hq => (HL2.out.1.lt hq).1)⟩
          clear ho2 hw2 Hst2 HL2 d0 d1 d2 d3 d4 e0 e1 e2 e3 e4
          go_wp2
          go_roundw
          case rel => exact ⟨i + 1, dn, hin, by go_num, rfl, HN.out⟩
          case measure => exact measD hin
    · have hin : i = n := Nat.le_antisymm hi (Nat.le_of_not_lt hin)
      subst hin
      have hbw : Below w.heap.size w wr := HB1.out.trans (HL.out.2.2.2.mono HB1.out.size)
      have hany : (R.map Fr.fd).any (sameB f.fd) = false := by
        have := HL.out.2.2.1
        rwa [List.take_of_length_le (by rw [hlen]; exact Nat.le_refl _)] at this
      have hend := stF_end f.fd (R.map Fr.fd)
      rw [List.length_map, hlen, ← (stFr_map f R i).1, ← (stFr_map f R i).2, ← HL.out.2.1] at hend
      have hput : putF (R.map Fr.fd) f.fd = insF f.fd (R.map Fr.fd) := by unfold putF; rw [if_neg (by rw [hany]; simp)]
      rw [← hput] at hend
      have hcap := stFr_len f R (show i ≤ R.length by rw [hlen]; exact Nat.le_refl _)
      cases dn
      case true =>
        rw [if_pos rfl] at hend
        obtain ⟨x, cx, rfl, hF⟩ := HL.out.1.fds (fun s hs => by
          rcases stFr_in hs with h | h
          · exact HR.out.wf s h
          · rw [h, Hf.out]; exact Hw.out) (fun s hs => by
          rcases stFr_in hs with h | h
          · exact (HR.out.sch s h).below hbw
          · rw [h, Hf.out]; exact Hs.out.below hbw)
        have Hq : Hid (PutPost w i R f (.returned (.slice x (stFr f R i).1.length cx)) wr) := ⟨x, _, cx, _, rfl, hF, hend, hcap, hbw⟩
        clear hF hend hput hany hbw HL
        clear hcap
        revert Hq
        generalize (stFr f R i).1.length = kk
        intro Hq
        go_wp2
        go_ret
        have hq := Hq.out
        rw [Hf.out] at hq
        exact hq
      case false =>
        rw [if_neg (by simp)] at hend
        obtain ⟨e0, e1, e2, e3, e4⟩ := HE.out
        have e0 := keep HL.out.2.2.2 e0
        have e1 := keep HL.out.2.2.2 e1
        have e2 := keep HL.out.2.2.2 e2
        have e3 := keep HL.out.2.2.2 e3
        have e4 := keep HL.out.2.2.2 e4
        have hcap1 : (stFr f R i).1.length < 1000000 := by omega
        have Hend := Lib.hid hend
        clear hend hput hany hbw
        go_wp2_with (at_builtin; go_loud (refine wpList_push eltFr rfl (.tmp 43) (.tmp 45) rfl (⟨xk, xt, xo, xx, xa, xn, xc, xs⟩ : Fr) rfl rfl rfl HL.out.1 HL.out.2.2.2.size hcap1 ?_))
        intro v2 y4 ho2 hw2 _
        have hb4 : Below w1.heap.size w1 y4 := Wrote.below HL.out.2.2.2 hw2 HL.out.2.2.2.size (fun q hq => (HL.out.1.lt hq).1)
        have hbw : Below w.heap.size w y4 := HB1.out.trans (hb4.mono HB1.out.size)
        rw [← Hf.out] at ho2
        obtain ⟨x, cx, rfl, hF⟩ := ho2.fds (fun s hs => by
          rcases List.mem_append.1 hs with hs | hs
          · rcases stFr_in hs with h | h
            · exact HR.out.wf s h
            · rw [h, Hf.out]; exact Hw.out
          · rw [List.mem_singleton.1 hs, Hf.out]; exact Hw.out) (fun s hs => by
          rcases List.mem_append.1 hs with hs | hs
          · rcases stFr_in hs with h | h
            · exact (HR.out.sch s h).below hbw
            · rw [h, Hf.out]; exact Hs.out.below hbw
          · rw [List.mem_singleton.1 hs, Hf.out]; exact Hs.out.below hbw)
        have hl2 : ((stFr f R i).1 ++ [f]).length ≤ i + 1 := by
          have h9 := congrArg List.length Hend.out
          rw [List.length_append, List.length_map] at h9
          have h10 : (putF (R.map Fr.fd) f.fd).length ≤ R.length + 1 := by
            unfold putF
            split
            · rw [List.length_map]; omega
            · rw [insF_len, List.length_map]; exact Nat.le_refl _
          rw [List.length_append]
          simp only [List.length_singleton] at h9 ⊢
          omega
        have Hq : Hid (PutPost w i R f (.returned (.slice x ((stFr f R i).1 ++ [f]).length cx)) y4) := ⟨x, _, cx, _, rfl, hF, by rw [List.map_append]; exact Hend.out, hl2, hbw⟩
        clear hF hbw HL ho2 hw2 hb4 hl2 e0 e1 e2 e3 e4
        revert Hq
        generalize ((stFr f R i).1 ++ [f]).length = kk
        intro Hq
        go_wp2
        go_ret
        have hq := Hq.out
        rw [Hf.out] at hq
        exact hq
end Go.Proofs.YtadngicebbnnlaaGreat

namespace Go.Proofs.YtadngicebbnnlaaGreat
open Go.ChangeShapes Go.WideShapes Go.ChangeAt Go.RowKit Go.Deep

set_option maxRecDepth 20000 in
set_option maxHeartbeats 8000000 in
theorem rstuck_calls {w : World} {b : Nat} {S : LogS} {a1 : Option Addr} {n1 c1 : Nat} {next : List Ac} (h : StateAt w b S) (hg : Good S) (hn : IsAcs w a1 n1 c1 next) :
    Calls Tryz.prog 33 #[.pointer (some ⟨b, 0, none⟩), .slice a1 n1 c1] w fun e w' => e = .returned (stuckV (stuckR S next)) ∧ Below w.heap.size w w' := by
  have hnb := hn.bd
  have HT := Lib.hid h
  have HG := Lib.hid hg
  have Hn := Lib.hid hn
  have hlen := hn.len
  have Hlen := Lib.hid hlen
  obtain ⟨r, hr⟩ : ∃ r, r = stuckV (stuckR S next) := ⟨_, rfl⟩
  rw [← hr]
  have Hr := Lib.hid hr
  clear h hg hn hlen hr
  go_enter Tryz.func33, Tryz.ntmps33
  go_wp2_with fail
  go_loopw [6] (fun x wr => ∃ i : Nat, i ≤ n1 ∧ x = .int .i64 i ∧ Hid (canAny S next i = false ∧ Below w.heap.size w wr)) (fun x _ => n1 - (intOf x).toNat)
  case atStart => exact ⟨0, Nat.zero_le _, by go_num, rfl, Below.refl ..⟩
  case round =>
    obtain ⟨i, hi, rfl, HB⟩ := hrel
    by_cases hin : i < n1
    · obtain ⟨b0, off, x, rfl, hx, _, c0, c1'⟩ := (Hn.out.below HB.out.2).at hin
      have Hx := Lib.hid hx
      obtain ⟨xk, xo⟩ := x
      simp only at c0 c1'
      clear hx
      go_wp2_with fail
      refine (scan_calls (HT.out.below HB.out.2) HG.out (i : Int) xk xo).mono ?_
      rintro e y2 ⟨rfl, hb⟩
      have HB3 := Lib.hid (HB.out.2.trans (hb.mono HB.out.2.size))
      have Hcs := Lib.hid (canAny_succ S next Hx.out)
      have Hc0 := Lib.hid HB.out.1
      clear hb HB c0 c1'
      revert Hcs
      simp only
      generalize canB S (i : Int) xk xo = cb
      intro Hcs
      cases cb
      case true =>
        have Hv : Hid (r = .tuple #[.int .i64 0, .bool false]) := by
          rw [Hid, Hr.out, stuckR_can (m := i + 1) (by rw [Hlen.out]; exact hin) (by rw [Hcs.out, Bool.or_true])]; rfl
        go_wp2
        go_returns
        exact ⟨by rw [Hv.out]; rfl, HB3.out⟩
      case false =>
        have HN : Hid (canAny S next (i + 1) = false ∧ Below w.heap.size w y2) := ⟨by rw [Hcs.out, Hc0.out]; rfl, HB3.out⟩
        clear Hcs Hc0 HB3
        go_wp2
        go_roundw
        case rel => exact ⟨i + 1, hin, by go_num, HN.out⟩
        case measure => exact measD hin
    · have hin : i = n1 := Nat.le_antisymm hi (Nat.le_of_not_lt hin)
      subst hin
      have Hcn : Hid (canAny S next next.length = false) := by rw [Hid, Hlen.out]; exact HB.out.1
      have HB1 := Lib.hid HB.out.2
      clear HB
      go_wp2_with fail
      go_loopw [8] (fun x wr => ∃ t : Nat, t ≤ 8 ∧ x = .int .i64 t ∧ Hid (noRun S t = true ∧ Below w.heap.size w wr)) (fun x _ => 8 - (intOf x).toNat)
      case atStart => exact ⟨0, Nat.zero_le _, by go_num, rfl, HB1.out⟩
      case round =>
        obtain ⟨t, ht, rfl, HQ⟩ := hrel
        by_cases ht8 : t < 8
        · have c0 := (HT.out.below HQ.out.2).cst ht8
          by_cases h2 : S.st t = 2
          · have hsb : (S.st t == 2) = true := by rw [h2]; rfl
            have Hv : Hid (r = .tuple #[.int .i64 (t : Int), .bool true]) := by
              rw [Hid, Hr.out, stuckR_at Hcn.out ht8 HQ.out.1 h2]; rfl
            have HB3 := Lib.hid HQ.out.2
            clear h2 HQ
            revert c0 hsb
            generalize S.st t = z
            intro c0 hsb
            go_wp2
            go_returns
            exact ⟨by rw [Hv.out]; rfl, HB3.out⟩
          · have hsb : (S.st t == 2) = false := by simpa using h2
            have HN : Hid (noRun S (t + 1) = true ∧ Below w.heap.size w wr) := ⟨by rw [noRun_succ, HQ.out.1]; simpa [bne] using hsb, HQ.out.2⟩
            clear h2 HQ
            revert c0 hsb
            generalize S.st t = z
            intro c0 hsb
            go_wp2
            go_roundw
            case rel => exact ⟨t + 1, ht8, by go_num, HN.out⟩
            case measure => exact measD ht8
        · have ht8 : t = 8 := Nat.le_antisymm ht (Nat.le_of_not_lt ht8)
          subst ht8
          have Hv : Hid (r = .tuple #[.int .i64 0, .bool false]) := by
            rw [Hid, Hr.out, stuckR_none Hcn.out HQ.out.1]; rfl
          go_wp2
          go_returns
          exact ⟨by rw [Hv.out]; rfl, HQ.out.2⟩
end Go.Proofs.YtadngicebbnnlaaGreat

namespace Go.Proofs.YtadngicebbnnlaaGreat
open Go.ChangeShapes Go.WideShapes Go.ChangeAt Go.RowKit Go.Deep

theorem fr_wf {k t o x : Int} {a : Option Addr} {n c : Nat} {s : List Int} (h1 : Fit k) (h2 : Fit t) (h3 : Fit o) (h4 : Fit x) : Fr.wf ⟨k, t, o, x, a, n, c, s⟩ := ⟨h1, h2, h3, h4⟩
/-- What the document's Of hands back. -/
def RofPost (w : World) (n : Nat) (l : List Ev) (next : List Ac) (e : Ending) (w' : World) : Prop :=
  Below w.heap.size w w' ∧ ((wrongS n l ≠ 0 ∧ e = .returned (.tuple #[.slice none 0 0, .int .i64 (wrongS n l)])) ∨
    (wrongS n l = 0 ∧ ∃ (S : LogS) (x : Option Addr) (k c : Nat) (R : List Fr), ofS l = (S, 0, 0) ∧ e = .returned (.tuple #[.slice x k c, .int .i64 0]) ∧ IsFds w' x k c R ∧ Merged (foundL l S next) (R.map Fr.fd)))

set_option maxRecDepth 20000 in
set_option maxHeartbeats 16000000 in
theorem rof21_calls {w : World} {a0 a1 : Option Addr} {n c n1 c1 : Nat} {l : List Ev} {next : List Ac} (h : IsEvs w a0 n c l) (hx : IsAcs w a1 n1 c1 next) :
    Calls Tryz.prog 14 #[.slice a0 n c, .slice a1 n1 c1] w (RofPost w n l next) := by
  have hnm : n ≤ 9223372036854775807 := by have := h.le; have := h.cap; unfold maxLen at *; omega
  have Hev := Lib.hid h
  have Hac := Lib.hid hx
  clear h hx
  go_enter Tryz.func14, Tryz.ntmps14
  go_wp2_with fail
  refine (rcfraces_calls Hev.out).mono ?_
  rintro e w2 ⟨v, rfl, hs, hb⟩
  have HB2 := Lib.hid hb
  by_cases hz : wrongS n l = 0
  case neg =>
    rw [confRes_bad hz] at hs ⊢
    have hz' : (wrongS n l != 0) = true := by simpa [bne] using hz
    obtain ⟨ra, rc, rfl, _⟩ := hs.nats
    have Hq : Hid (RofPost w n l next (.returned (.tuple #[.slice none 0 0, .int .i64 (wrongS n l)])) w2) := ⟨HB2.out, .inl ⟨hz, rfl⟩⟩
    clear hs hb hz HB2
    generalize wrongS n l = z at *
    go_wp2
    go_returns
    exact Hq.out
  obtain ⟨S, hS⟩ := wrong_ofC hz
  have hn100 : n ≤ 100 := wrong_leC hz
  rw [confRes_good hz] at hs ⊢
  simp only at hs ⊢
  obtain ⟨ra, rc, rfl, hrc⟩ := hs.nats
  have hRl : (docC l n).length ≤ 10000 := by have := docC_len l n hn100; have : n * 100 ≤ 100 * 100 := Nat.mul_le_mul_right _ hn100; omega
  have HSe := Lib.hid hs
  have Hz := Lib.hid hz
  have HS := Lib.hid hS
  have Hrc := Lib.hid hrc
  clear hs hb hz hS hrc
  go_wp2_with fail
  refine (rsched_calls (Hev.out.below HB2.out) (by omega)).mono ?_
  rintro e w3 ⟨sa, sc, rfl, hI, hnil, hb⟩
  have HB3 := Lib.hid (HB2.out.trans (hb.mono HB2.out.size))
  have HSe3 := Lib.hid (HSe.out.below hb)
  have HSch := Lib.hid (And.intro hI hnil)
  have HLn := Lib.hid Hev.out.len
  clear hI hnil hb HSe HB2
  obtain ⟨s, hs⟩ : ∃ s, s = l.map Ev.t := ⟨_, rfl⟩
  have Hs := Lib.hid hs
  rw [← hs] at HSch
  clear hs
  go_wp2_with fail
  go_loopw [9, 10] (fun u x wr => ∃ (i : Nat) (x1 : Option Addr) (k cx : Nat) (R : List Fr), i ≤ n ∧ x = .int .i64 i ∧ u = .slice x1 k cx ∧ Hid (IsFds wr x1 k cx R ∧ Merged (badsN l s i) (R.map Fr.fd) ∧ k ≤ i ∧ Below w3.heap.size w3 wr)) (fun _ x _ => n - (intOf x).toNat)
  case atStart => exact ⟨0, none, 0, 0, [], Nat.zero_le _, by go_num, rfl, IsFds.nil .., Merged.nil, Nat.le_refl _, Below.refl ..⟩
  case round =>
    obtain ⟨i, x1, k, cx, R, hi, rfl, rfl, HL⟩ := hrel
    by_cases hin : i < n
    · obtain ⟨b, off, x, rfl, hx, hxw, c0, c1', c2, c3, c4⟩ := (Hev.out.below (HB3.out.trans (HL.out.2.2.2.mono HB3.out.size))).at hin
      have Hbs := Lib.hid (badsN_succ (s := s) hx)
      have Hxw := Lib.hid hxw
      have hk : k < 100000 := by have := HL.out.2.2.1; omega
      obtain ⟨xt, xk, xo, xv, xb⟩ := x
      simp only at c0 c1' c2 c3 c4
      have hsch : ∀ a b c d, SchAt wr ⟨a, b, c, d, sa, n, sc, s⟩ := fun a b c d => ⟨HSch.out.1.below HL.out.2.2.2, HSch.out.2⟩
      have Hsch := Lib.hid hsch
      clear hx hxw hsch
      by_cases hb1 : xb = 1
      · subst hb1
        have Hbs2 : Hid (badsN l s (i + 1) = badsN l s i ++ [⟨1, xt, 0, 0, s⟩]) := by rw [Hid, Hbs.out]; rfl
        clear Hbs
        go_wp2_with fail
        refine (rput_calls HL.out.1 hk _ _ _ _ _ _ _ s (fr_wf (Fit.of (by decide) (by decide)) Hxw.out.1 (Fit.of (by decide) (by decide)) (Fit.of (by decide) (by decide))) (Hsch.out _ _ _ _)).mono ?_
        rintro e y2 ⟨x2, k2, cx2, R2, rfl, hF2, hM2, hk2, hb⟩
        have HN : Hid (IsFds y2 x2 k2 cx2 R2 ∧ Merged (badsN l s (i + 1)) (R2.map Fr.fd) ∧ k2 ≤ i + 1 ∧ Below w3.heap.size w3 y2) := by
          refine ⟨hF2, ?_, by have := HL.out.2.2.1; omega, HL.out.2.2.2.trans (hb.mono HL.out.2.2.2.size)⟩
          rw [hM2, Hbs2.out]
          exact HL.out.2.1.put _
        clear hF2 hM2 hk2 hb HL Hbs2 c0 c1' c2 c3 c4 hk
        go_wp2
        go_roundw
        case rel => exact ⟨i + 1, x2, k2, cx2, R2, hin, by go_num, rfl, HN.out⟩
        case measure => exact measD hin
      · have hb1b : (xb == 1) = false := by simpa using hb1
        by_cases hb0 : xb = 0
        · subst hb0
          have HN : Hid (IsFds wr x1 k cx R ∧ Merged (badsN l s (i + 1)) (R.map Fr.fd) ∧ k ≤ i + 1 ∧ Below w3.heap.size w3 wr) := ⟨HL.out.1, by rw [Hbs.out]; simp [badF]; exact HL.out.2.1, by have := HL.out.2.2.1; omega, HL.out.2.2.2⟩
          clear HL Hbs hb1 hk
          go_wp2
          go_roundw
          case rel => exact ⟨i + 1, x1, k, cx, R, hin, by go_num, rfl, HN.out⟩
          case measure => exact measD hin
        · have hb0b : (xb == 0) = false := by simpa using hb0
          have hb0c : (xb != 0) = true := by simpa [bne] using hb0
          have Hbs2 : Hid (badsN l s (i + 1) = badsN l s i ++ [⟨2, xt, 0, xb, s⟩]) := by rw [Hid, Hbs.out]; simp [badF, hb0, hb1]
          clear Hbs hb0 hb1
          go_wp2_with fail
          refine wp_ext_draw 13 mixed (by kernel_rfl) ?_
          simp only [List.take_succ_cons, List.take_zero, List.drop_succ_cons, List.drop_zero]
          repeat ((first | ((apply TextRun.go rfl rfl rfl); (focus (intro w1 hS K hK; have hc := bcell hS; have hs := blt hS; have c0 := keep hS c0; have c4 := keep hS c4; go_wp2_with (fail); first | done | exact hS | exact hS.trans (hb.mono hS.size)))) | (refine TextRun.skip rfl ?_) | ((refine TextRun.wantedT rfl rfl rfl ?_); (apply Exists.intro); (apply And.intro); (focus (intro w1 hS K hK; have hc := bcell hS; have hs := blt hS; have c0 := keep hS c0; have c4 := keep hS c4; go_wp2_with (fail); first | done | exact hS | exact hS.trans (hb.mono hS.size))))); (simp only [Act.put, List.setIfInBounds_toArray, List.set_cons_zero, List.set_cons_succ]))
          refine TextRun.done ?_
          intro y1 hb
          have HL1 := Lib.hid (And.intro (HL.out.1.below hb) (HL.out.2.2.2.trans (hb.mono HL.out.2.2.2.size)))
          have Hs1 := Lib.hid (fun a b c d => (Hsch.out a b c d).below hb)
          have HM := Lib.hid (And.intro HL.out.2.1 HL.out.2.2.1)
          clear hb HL c0 c1' c2 c3 c4 Hsch
          go_wp2_with fail
          refine (rput_calls HL1.out.1 hk _ _ _ _ _ _ _ s (fr_wf (Fit.of (by decide) (by decide)) Hxw.out.1 (Fit.of (by decide) (by decide)) Hxw.out.2.2.2.2) (Hs1.out _ _ _ _)).mono ?_
          rintro e y2 ⟨x2, k2, cx2, R2, rfl, hF2, hM2, hk2, hb⟩
          have HN : Hid (IsFds y2 x2 k2 cx2 R2 ∧ Merged (badsN l s (i + 1)) (R2.map Fr.fd) ∧ k2 ≤ i + 1 ∧ Below w3.heap.size w3 y2) := by
            refine ⟨hF2, ?_, by have := HM.out.2; omega, HL1.out.2.trans (hb.mono HL1.out.2.size)⟩
            rw [hM2, Hbs2.out]
            exact HM.out.1.put _
          clear hF2 hM2 hk2 hb HL1 Hbs2 hk Hs1 HM
          go_wp2
          go_roundw
          case rel => exact ⟨i + 1, x2, k2, cx2, R2, hin, by go_num, rfl, HN.out⟩
          case measure => exact measD hin
    · have hin : i = n := Nat.le_antisymm hi (Nat.le_of_not_lt hin)
      subst hin
      have HL0 := Lib.hid HL.out
      clear HL
      obtain ⟨m, hm⟩ : ∃ m, m = (docC l i).length := ⟨_, rfl⟩
      rw [← hm] at HSe3 Hrc hRl ⊢
      have hmm : m ≤ 9223372036854775807 := by omega
      have Hm := Lib.hid hm
      clear hm
      have HRl := Lib.hid hRl
      have hn1 : i ≤ 100 := hn100
      clear hRl
      go_wp2_with fail
      clear hi hn100
      go_loopw [9, 11] (fun u x wr => ∃ (q : Nat) (x1 : Option Addr) (k cx : Nat) (R : List Fr), q ≤ m ∧ x = .int .i64 q ∧ u = .slice x1 k cx ∧ Hid (IsFds wr x1 k cx R ∧ Merged (badsN l s i ++ ((docC l i).take q).map (raceF l s)) (R.map Fr.fd) ∧ k ≤ i + q ∧ Below w3.heap.size w3 wr)) (fun _ x _ => m - (intOf x).toNat)
      case atStart => exact ⟨0, x1, k, cx, R, Nat.zero_le _, by go_num, rfl, HL0.out.1, by simpa using HL0.out.2.1, HL0.out.2.2.1, HL0.out.2.2.2⟩
      case round =>
        clear HL0
        obtain ⟨q, x1, k, cx, R, hq, rfl, rfl, HL⟩ := hrel
        by_cases hqm : q < m
        · obtain ⟨⟨P1, P2⟩, hp⟩ : ∃ p, (docC l i)[q]? = some p := ⟨_, List.getElem?_eq_getElem (by rw [← Hm.out]; exact hqm)⟩
          have hmem := docC_mem.1 (List.mem_of_getElem? hp)
          simp only at hmem
          have hP1 : P1 < i := by omega
          have hP2 : P2 < i := hmem.1
          obtain ⟨gr, hra, p0, p1⟩ := HSe3.out.nat_at hp
          simp only at p0 p1
          have p0 := keep HL.out.2.2.2 p0
          have p1 := keep HL.out.2.2.2 p1
          subst hra
          have hk : k < 100000 := by have := HL.out.2.2.1; have := HRl.out; omega
          have hevw := Hev.out.below (HB3.out.trans (HL.out.2.2.2.mono HB3.out.size))
          obtain ⟨b, off, x, ha0, hx, hxw, c0, c1', c2, c3, c4⟩ := hevw.at hP1
          obtain ⟨b', off', y, ha0', hy, hyw, d0, d1, d2, d3, d4⟩ := hevw.at hP2
          subst ha0
          cases ha0'
          have Htk : Hid (((docC l i).take (q + 1)).map (raceF l s) = ((docC l i).take q).map (raceF l s) ++ [⟨4, min x.t y.t, max x.t y.t, x.o, s⟩]) := by
            rw [Hid, List.take_add_one, hp]
            simp only [Option.toList, List.map_append, List.map_cons, List.map_nil]
            unfold raceF
            simp only
            rw [getD_of hx, getD_of hy]
          have Hxw := Lib.hid (And.intro hxw hyw)
          obtain ⟨at', ak, ao, av, ab⟩ := x
          obtain ⟨bt, bk, bo, bv, bb⟩ := y
          simp only at c0 c1' c2 c3 c4 d0 d1 d2 d3 d4 Htk
          clear hx hy hxw hyw hmem hp hevw
          have hgr : gr < wr.heap.size := World.block_lt_of_cell? wr _ p0
          have hbr : b < wr.heap.size := World.block_lt_of_cell? wr _ c0
          go_upto_region 18 with (fail)
          have h1 : Below wr.heap.size wr (wr.alloc (.cells #[.int .i64 at', .int .i64 ak, .int .i64 ao, .int .i64 av, .int .i64 ab] 46)) := (Below.refl _ wr).alloc (Nat.le_refl _) _
          have h2 : Below wr.heap.size wr ((wr.alloc (.cells #[.int .i64 at', .int .i64 ak, .int .i64 ao, .int .i64 av, .int .i64 ab] 46)).alloc (.cells #[.int .i64 bt, .int .i64 bk, .int .i64 bo, .int .i64 bv, .int .i64 bb] 46)) := h1.alloc h1.size _
          have hT := heap_two wr #[.int .i64 at', .int .i64 ak, .int .i64 ao, .int .i64 av, .int .i64 ab] #[.int .i64 bt, .int .i64 bk, .int .i64 bo, .int .i64 bv, .int .i64 bb] 46
          have hA1 := hT.1
          have hA2 := hT.2.1
          have HL2 := Lib.hid (And.intro (HL.out.1.below h2) (HL.out.2.2.2.trans (h2.mono HL.out.2.2.2.size)))
          have HM := Lib.hid (And.intro HL.out.2.1 HL.out.2.2.1)
          clear hT h1 h2 hgr hbr p0 p1 c0 c1' c2 c3 c4 d0 d1 d2 d3 d4 HL
          revert hA1 hA2 HL2
          generalize (wr.alloc (.cells #[.int .i64 at', .int .i64 ak, .int .i64 ao, .int .i64 av, .int .i64 ab] 46)).alloc (.cells #[.int .i64 bt, .int .i64 bk, .int .i64 bo, .int .i64 bv, .int .i64 bb] 46) = y2
          intro hA1 hA2 HL2
          have f0 : y2.cell? ⟨wr.heap.size, 0, none⟩ = some (.int .i64 at') := cell_of_block hA1
          have f2 : y2.cell? ⟨wr.heap.size, 2, none⟩ = some (.int .i64 ao) := cell_of_block hA1
          have g0 : y2.cell? ⟨wr.heap.size + 1, 0, none⟩ = some (.int .i64 bt) := cell_of_block hA2
          have Hs2 : Hid (∀ a b c d, SchAt y2 ⟨a, b, c, d, sa, i, sc, s⟩) := fun a b c d => ⟨HSch.out.1.below HL2.out.2, HSch.out.2⟩
          clear hA1 hA2
          go_wp2_with fail
          refine (rput_calls HL2.out.1 hk _ _ _ _ _ _ _ s (fr_wf (Fit.of (by decide) (by decide)) (fit_min Hxw.out.1.1 Hxw.out.2.1) (fit_max Hxw.out.1.1 Hxw.out.2.1) Hxw.out.1.2.2.1) (Hs2.out _ _ _ _)).mono ?_
          rintro e y4 ⟨x4, k4, cx4, R4, rfl, hF4, hM4, hk4, hb⟩
          have HN : Hid (IsFds y4 x4 k4 cx4 R4 ∧ Merged (badsN l s i ++ ((docC l i).take (q + 1)).map (raceF l s)) (R4.map Fr.fd) ∧ k4 ≤ i + (q + 1) ∧ Below w3.heap.size w3 y4) := by
            refine ⟨hF4, ?_, by have := HM.out.2; omega, HL2.out.2.trans (hb.mono HL2.out.2.size)⟩
            rw [hM4, Htk.out, ← List.append_assoc]
            exact HM.out.1.put _
          clear hF4 hM4 hk4 hb HL2 HM Htk Hs2 f0 f2 g0 hk
          go_wp2
          go_roundw
          case rel => exact ⟨q + 1, x4, k4, cx4, R4, hqm, by go_num, rfl, HN.out⟩
          case measure => exact measD hqm
        · have hqm : q = m := Nat.le_antisymm hq (Nat.le_of_not_lt hqm)
          subst hqm
          have HM6 : Hid (Merged (badsN l s i ++ (docC l i).map (raceF l s)) (R.map Fr.fd)) := by
            have := HL.out.2.1
            rwa [List.take_of_length_le (by rw [← Hm.out]; exact Nat.le_refl _)] at this
          have hk : k < 100000 := by have := HL.out.2.2.1; have := HRl.out; omega
          have HL6 := Lib.hid (And.intro HL.out.1 HL.out.2.2.2)
          have HB6 := Lib.hid (HB3.out.trans (HL.out.2.2.2.mono HB3.out.size))
          have Hfl : Hid (foundL l S next = badsN l s i ++ (docC l i).map (raceF l s) ++ deadF s (stuckR S next)) := by
            unfold foundL
            rw [Hid, Hs.out, HLn.out]
          clear HL
          go_wp2_with fail
          refine (rof_ok (Hev.out.below HB6.out) HS.out).mono ?_
          rintro e y1 ⟨rfl, hb⟩
          have HL7 := Lib.hid (And.intro (HL6.out.1.below hb) (HL6.out.2.trans (hb.mono HL6.out.2.size)))
          clear hb HL6 HB6
          go_wp2_with (refine wpList_store_row rfl 70 (.tmp 14) (.tmp 111) rfl y1.heap.size (stArr S.st S.ow) rfl rfl 70 #[.int .i64 0, .int .i64 0, .int .i64 0, .int .i64 0, .int .i64 0, .int .i64 0, .int .i64 0, .int .i64 0, .int .i64 0, .int .i64 0, .int .i64 0, .int .i64 0, .int .i64 0, .int .i64 0, .int .i64 0, .int .i64 0] (MapKept.heap_alloc y1 _).1 infoState rfl (stArr_one _ _) ?_)
          have hrow := row_made y1 #[.int .i64 0, .int .i64 0, .int .i64 0, .int .i64 0, .int .i64 0, .int .i64 0, .int .i64 0, .int .i64 0, .int .i64 0, .int .i64 0, .int .i64 0, .int .i64 0, .int .i64 0, .int .i64 0, .int .i64 0, .int .i64 0] (stArr S.st S.ow) 70
          revert hrow
          generalize (y1.alloc (.cells #[.int .i64 0, .int .i64 0, .int .i64 0, .int .i64 0, .int .i64 0, .int .i64 0, .int .i64 0, .int .i64 0, .int .i64 0, .int .i64 0, .int .i64 0, .int .i64 0, .int .i64 0, .int .i64 0, .int .i64 0, .int .i64 0] 70)).setRow y1.heap.size (stArr S.st S.ow) = y2
          rintro ⟨hT, hb⟩
          have hT : StateAt y2 y1.heap.size S := hT
          have HT := Lib.hid hT
          have HL8 := Lib.hid (And.intro (HL7.out.1.below hb) (HL7.out.2.trans (hb.mono HL7.out.2.size)))
          have HA8 := Lib.hid (Hac.out.below (HB3.out.trans (HL8.out.2.mono HB3.out.size)))
          have Hgd : Hid (Good S) := by
            have := ofS_good l
            rw [HS.out] at this
            exact this
          clear hb hT HL7
          generalize y1.heap.size = bs at *
          refine (rstuck_calls HT.out Hgd.out HA8.out).mono ?_
          rintro e y3 ⟨rfl, hb⟩
          have HL9 := Lib.hid (And.intro (HL8.out.1.below hb) (HL8.out.2.trans (hb.mono HL8.out.2.size)))
          clear hb HL8 HT HA8 Hgd
          cases hsr : stuckR S next with
          | none =>
            have Hq : Hid (RofPost w i l next (.returned (.tuple #[.slice x1 k cx, .int .i64 0])) y3) := by
              refine ⟨HB3.out.trans (HL9.out.2.mono HB3.out.size), .inr ⟨Hz.out, S, x1, k, cx, R, HS.out, rfl, HL9.out.1, ?_⟩⟩
              rw [Hfl.out, hsr]
              simpa [deadF] using HM6.out
            clear hsr HL9
            simp only [stuckV]
            go_wp2
            go_returns
            exact Hq.out
          | some tk =>
            have htk : tk < 8 := stuckR_lt hsr
            have Hsr := Lib.hid hsr
            clear hsr
            have Hs9 : Hid (∀ a b c d, SchAt y3 ⟨a, b, c, d, sa, i, sc, s⟩) := fun a b c d => ⟨HSch.out.1.below HL9.out.2, HSch.out.2⟩
            simp only [stuckV]
            go_wp2_with fail
            refine (rput_calls HL9.out.1 hk _ _ _ _ _ _ _ s (fr_wf (Fit.of (by decide) (by decide)) (Fit.of (by omega) (by omega)) (Fit.of (by decide) (by decide)) (Fit.of (by decide) (by decide))) (Hs9.out _ _ _ _)).mono ?_
            rintro e y4 ⟨x4, k4, cx4, R4, rfl, hF4, hM4, hk4, hb⟩
            have Hq : Hid (RofPost w i l next (.returned (.tuple #[.slice x4 k4 cx4, .int .i64 0])) y4) := by
              have hb4 := HL9.out.2.trans (hb.mono HL9.out.2.size)
              refine ⟨HB3.out.trans (hb4.mono HB3.out.size), .inr ⟨Hz.out, S, x4, k4, cx4, R4, HS.out, rfl, hF4, ?_⟩⟩
              rw [Hfl.out, Hsr.out, hM4]
              exact HM6.out.put _
            clear hF4 hM4 hk4 hb HL9 Hs9
            go_wp2
            go_returns
            exact Hq.out
end Go.Proofs.YtadngicebbnnlaaGreat

namespace Go.Proofs.YtadngicebbnnlaaGreat
open Go.ChangeShapes Go.WideShapes Go.ChangeAt Go.RowKit Go.Deep

set_option maxRecDepth 20000 in
set_option maxHeartbeats 8000000 in
theorem findOf_law {w : World} {a0 a1 : Option Addr} {n c n1 c1 : Nat} {l : List Ev} {next : List Ac} (h : IsEvs w a0 n c l) (hac : IsAcs w a1 n1 c1 next) :
    Calls Tryz.prog 4 #[.slice a0 n c, .slice a1 n1 c1] w fun e w' => e = .returned (.bool true) ∧ Below w.heap.size w w' := by
  have Hev := Lib.hid h
  have Hac := Lib.hid hac
  clear h hac
  go_enter Tryz.func4, Tryz.ntmps4
  go_wp2_with fail
  refine (awake21_calls _).mono ?_
  rintro e w1 ⟨rfl, hb⟩
  have HB1 := Lib.hid hb
  clear hb
  go_wp2_with fail
  refine (fdof_calls (Hev.out.below HB1.out) (Hac.out.below HB1.out)).mono ?_
  rintro e w2 ⟨hb, hp⟩
  have HB2 := Lib.hid (HB1.out.trans (hb.mono HB1.out.size))
  have hr := rof21_calls (Hev.out.below HB2.out) (Hac.out.below HB2.out)
  have Hr := Lib.hid hr
  clear hr hb HB1
  rcases hp with ⟨hz, rfl⟩ | ⟨hz, S1, x1, k1, R1, hS1, rfl, hF1, hM1⟩
  · go_wp2_with fail
    refine Hr.out.mono ?_
    rintro e w3 ⟨hb, ⟨_, rfl⟩ | ⟨hz2, _⟩⟩
    case inr => exact absurd hz2 hz
    have HB3 := Lib.hid (HB2.out.trans (hb.mono HB2.out.size))
    clear hb Hr HB2 hz
    generalize wrongS n l = z at *
    go_wp2_with fail
    refine (fsame_calls (IsFds.nil w3) (IsFds.nil w3) rfl).mono ?_
    rintro e w4 ⟨rfl, hb⟩
    have HB4 := Lib.hid (HB3.out.trans (hb.mono HB3.out.size))
    clear hb HB3
    go_wp2
    go_ret
    exact ⟨rfl, HB4.out⟩
  · have HF1 := Lib.hid hF1
    have HM1 := Lib.hid hM1
    have HS1 := Lib.hid hS1
    clear hF1 hM1 hS1
    go_wp2_with fail
    refine Hr.out.mono ?_
    rintro e w3 ⟨hb, ⟨hz2, _⟩ | ⟨_, S2, x2, k2, c2, R2, hS2, rfl, hF2, hM2⟩⟩
    · exact absurd hz hz2
    have HB3 := Lib.hid (HB2.out.trans (hb.mono HB2.out.size))
    have HF1 := Lib.hid (HF1.out.below hb)
    have HF2 := Lib.hid hF2
    have HN : Hid (R1.map Fr.fd = R2.map Fr.fd) := by
      have e1 : S1 = S2 := congrArg Prod.fst (HS1.out.symm.trans hS2)
      subst e1
      exact HM1.out.eq hM2
    clear hb hF2 hM2 hS2 Hr HB2 hz HM1
    go_wp2_with fail
    refine (fsame_calls HF1.out HF2.out HN.out).mono ?_
    rintro e w4 ⟨rfl, hb⟩
    have HB4 := Lib.hid (HB3.out.trans (hb.mono HB3.out.size))
    clear hb HB3
    go_wp2
    go_ret
    exact ⟨rfl, HB4.out⟩
end Go.Proofs.YtadngicebbnnlaaGreat
