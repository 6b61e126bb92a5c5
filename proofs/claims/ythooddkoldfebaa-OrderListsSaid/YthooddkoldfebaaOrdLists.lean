/-
  Ahead, Behind and Beside of an Order, the program's and the document's.
-/
import Derived.Test.YthooddkoldfebaaOrderOf
import Derived.Test.YthooddkoldfebaaPush
set_option linter.unusedSimpArgs false
set_option linter.unusedVariables false
namespace Go.Proofs.Ythooddkoldfebaa
open Go.ChangeShapes Go.WideShapes Go.ChangeAt Go.RowKit Go.Deep

def lastU (l : List Ev) (t : Int) : Nat → Int
  | 0 => -1
  | k + 1 => match l[k]? with
    | some e => if e.t = t then (k : Int) else lastU l t k
    | none => lastU l t k
def lastOf (l : List Ev) (t : Int) : Int := lastU l t l.length
theorem lastU_succ {l : List Ev} {t : Int} {k : Nat} {e : Ev} (h : l[k]? = some e) : lastU l t (k + 1) = if e.t = t then (k : Int) else lastU l t k := by
  simp only [lastU]; rw [h]
set_option maxHeartbeats 2000000 in
theorem rlast_calls {w : World} {a0 : Option Addr} {n c : Nat} {l : List Ev} (h : IsEvs w a0 n c l) (t : Int) :
    Calls Try.prog 62 #[.slice a0 n c, .int .i64 t] w fun e w' => e = .returned (.int .i64 (lastOf l t)) ∧ Below w.heap.size w w' := by
  have hnm : n ≤ 9223372036854775807 := by have := h.le; have := h.cap; unfold maxLen at *; omega
  have Hl := Lib.hid h.len
  go_enter Try.func62, Try.ntmps62
  go_wp2
  go_loopw [5, 6] (fun u v wr => ∃ k : Nat, k ≤ n ∧ u = .int .i64 (lastU l t k) ∧ v = .int .i64 k ∧ Below w.heap.size w wr) (fun _ v _ => n - (intOf v).toNat)
  case atStart => exact ⟨0, Nat.zero_le _, rfl, rfl, Below.refl _ _⟩
  case round =>
    obtain ⟨k, hk, rfl, rfl, hB⟩ := hrel
    by_cases hlt : k < n
    · obtain ⟨b, off, x, rfl, hx, _, c0, _⟩ := h.at hlt
      have c0 := keep hB c0
      have hs := lastU_succ (t := t) hx
      by_cases hq : x.t = t
      · rw [if_pos hq] at hs
        have Hs := Lib.hid hs
        have HB := Lib.hid hB
        obtain ⟨xt, xk, xo, xv, xb⟩ := x
        simp only at hq c0
        subst hq
        clear hs hB hx
        go_wp2
        go_roundw
        case rel => exact ⟨k + 1, by omega, by rw [Hs.out], by go_num, HB.out⟩
        case measure => simp [intOf]; omega
      · rw [if_neg hq] at hs
        have Hs := Lib.hid hs
        have HB := Lib.hid hB
        obtain ⟨xt, xk, xo, xv, xb⟩ := x
        simp only at hq c0
        have hq' : (xt == t) = false := by simpa using hq
        clear hs hB hx hq
        generalize lastU l t k = q at *
        go_wp2
        go_roundw
        case rel => exact ⟨k + 1, by omega, by rw [Hs.out], by go_num, HB.out⟩
        case measure => simp [intOf]; omega
    · have hkn : k = n := by omega
      have hf : lastOf l t = lastU l t k := by unfold lastOf; rw [Hl.out, hkn]
      have Hf := Lib.hid hf
      have HB := Lib.hid hB
      clear hf hB
      generalize lastU l t k = q at *
      go_wp2
      go_ret
      exact ⟨by rw [Hf.out]; rfl, HB.out⟩

noncomputable def aheadP (n : Nat) (l : List Ev) (i : Int) : Int := if inN n i then ahK (thE l) i.toNat i.toNat else -1
theorem ah_last {l : List Ev} {i : Nat} (hi : i ≤ l.length) (j : Nat) : ∀ K, K ≤ i → ahK (thE l) j K = lastU (l.take i) (thE l j) K
  | 0, _ => rfl
  | K + 1, h => by
    have hK : K < l.length := by omega
    have hx : l[K]? = some l[K] := List.getElem?_eq_getElem hK
    have hx' : (l.take i)[K]? = some l[K] := by rw [List.getElem?_take, if_pos (by omega)]; exact hx
    rw [lastU_succ hx', ← ah_last hi j K (by omega), ahK, thE_of hx]
    by_cases he : l[K].t = thE l j
    · simp [he]
    · simp [he]
theorem ahead_is {l : List Ev} {n i : Nat} (hg : GoodL n l) (hi : i < n) : ahK (thE l) i i = lastOf (l.take i) (thE l i) := by
  have h1 := hg.len
  unfold lastOf
  rw [List.length_take, Nat.min_eq_left (by omega)]
  exact ah_last (by omega) i i (Nat.le_refl _)

set_option maxRecDepth 20000 in
set_option maxHeartbeats 4000000 in
theorem oahead_calls {w : World} {B b : Nat} {v : Value} {l : List Ev} {n : Nat} (h : OrdAt w B b v l n) (hg : GoodL n l) (i : Int) :
    Calls Try.prog 31 #[.pointer (some ⟨b, 0, none⟩), .int .i64 i] w fun e w' => e = .returned (.int .i64 (aheadP n l i)) ∧ Below w.heap.size w w' := by
  have hp := place_calls h hg.le i
  rcases inN_cases n i with hi | ⟨ki, rfl, hki⟩
  · have Hv : Hid (aheadP n l i = -1) := by unfold Hid aheadP; rw [hi]; rfl
    rw [hi] at hp
    have Hp := Lib.hid hp
    clear hp hi
    rw [Hv.out]
    go_enter Try.func31, Try.ntmps31
    go_wp2_with fail
    refine Hp.out.mono ?_
    rintro e w' ⟨rfl, rfl⟩
    go_wp2
    go_ret
    exact ⟨rfl, Below.refl _ _⟩
  · have Hv : Hid (aheadP n l (ki : Int) = ahK (thE l) ki ki) := by unfold Hid aheadP; rw [inN_nat, decide_eq_true hki]; rfl
    rw [inN_nat, decide_eq_true hki] at hp
    have Hp := Lib.hid hp
    obtain ⟨a, c, rfl, cb, hrd⟩ := h.read
    obtain ⟨g, rfl, _, _, _, hci⟩ := hrd ki hki
    have c18 : w.cell? ⟨g, ki * 19 + 18, none⟩ = some (.int .i64 (ahK (thE l) ki ki)) := hci 18 _ rfl
    clear hp hrd hci
    rw [Hv.out]
    generalize ahK (thE l) ki ki = z at *
    go_enter Try.func31, Try.ntmps31
    go_wp2_with fail
    refine Hp.out.mono ?_
    rintro e w' ⟨rfl, rfl⟩
    go_wp2
    go_ret
    exact ⟨rfl, Below.refl _ _⟩

theorem evs_take {w : World} {b off n c : Nat} {l : List Ev} (h : IsEvs w (some ⟨b, off, none⟩) n c l) {i : Nat} (hi : i ≤ n) : IsEvs w (some ⟨b, off, none⟩) i c (l.take i) := by
  have hlen := h.len
  refine ⟨⟨by rw [evCells, flat_len Ev.vals 5 (fun _ => rfl), List.length_take]; congr 1; omega, fun h0 => ?_⟩, by rw [List.length_take]; omega, by have := h.le; omega, h.cap, fun e he => h.wf e (List.mem_of_mem_take he)⟩
  obtain ⟨b', off', hq, hc⟩ := h.reads.2 (by omega)
  cases hq
  refine ⟨b, off, rfl, fun j u hu => ?_⟩
  obtain ⟨x, hx, hxu⟩ := flat_inv Ev.vals 5 (fun _ => rfl) (by decide) _ j u hu
  have hxl : l[j / 5]? = some x := by
    rw [List.getElem?_take] at hx
    split at hx
    · exact hx
    · cases hx
  refine hc j u ?_
  have := flat_get Ev.vals 5 (fun _ => rfl) l (j / 5) (j % 5) x hxl (Nat.mod_lt _ (by decide))
  rw [show j / 5 * 5 + j % 5 = j by omega] at this
  rw [evCells, this]; exact hxu

set_option maxRecDepth 20000 in
set_option maxHeartbeats 4000000 in
theorem rahead_calls {w : World} {rb : Nat} {a0 : Option Addr} {n c : Nat} {v1 v2 : Value} {l : List Ev} (h : ROrdAt w rb a0 n c v1 v2 l) (hg : GoodL n l) (i : Int) :
    Calls Try.prog 32 #[.pointer (some ⟨rb, 0, none⟩), .int .i64 i] w fun e w' => e = .returned (.int .i64 (aheadP n l i)) ∧ Below w.heap.size w w' := by
  have hp := rplace_calls h i
  have cq : w.cell? ⟨rb, 0, none⟩ = some (.slice a0 n c) := cell_of_block h.blk
  rcases inN_cases n i with hi | ⟨ki, rfl, hki⟩
  · have Hv : Hid (aheadP n l i = -1) := by unfold Hid aheadP; rw [hi]; rfl
    rw [hi] at hp
    have Hp := Lib.hid hp
    clear hp hi
    rw [Hv.out]
    go_enter Try.func32, Try.ntmps32
    go_wp2_with fail
    refine Hp.out.mono ?_
    rintro e w' ⟨rfl, rfl⟩
    go_wp2
    go_ret
    exact ⟨rfl, Below.refl _ _⟩
  · have Hv : Hid (aheadP n l (ki : Int) = lastOf (l.take ki) (thE l ki)) := by unfold Hid aheadP; rw [inN_nat, decide_eq_true hki]; exact ahead_is hg hki
    rw [inN_nat, decide_eq_true hki] at hp
    have Hp := Lib.hid hp
    obtain ⟨bl, off, e, rfl, he, _, d0, _⟩ := h.evs.at hki
    have hte : thE l ki = e.t := thE_of he
    have Hla : Hid (∀ W, Below w.heap.size w W → Calls Try.prog 62 #[.slice (some ⟨bl, off, none⟩) ki c, .int .i64 e.t] W fun x w' => x = .returned (.int .i64 (lastOf (l.take ki) e.t)) ∧ Below W.heap.size W w') := fun W hb => rlast_calls (evs_take (h.evs.below hb) (by omega)) e.t
    have hle := h.evs.le
    have hnm : n ≤ 9223372036854775807 := by have := hg.le; omega
    clear hp
    rw [Hv.out, hte]
    have Hz := Lib.hid Hv
    clear hte Hv Hz he
    generalize lastOf (l.take ki) e.t = z at *
    obtain ⟨et, ek, eo, ev, eb⟩ := e
    simp only at d0 Hla
    go_enter Try.func32, Try.ntmps32
    go_wp2_with fail
    refine Hp.out.mono ?_
    rintro e w' ⟨rfl, rfl⟩
    go_wp2_with fail
    refine wp_ext_draw 16 mixed (by kernel_rfl) ?_
    simp only [List.take_succ_cons, List.take_zero, List.drop_succ_cons, List.drop_zero]
    repeat ((first | ((apply TextRun.go rfl rfl rfl); (intro w1 hS K hK; have hc := bcell hS; have hs := blt hS; have d0 := keep hS d0; have cq := keep hS cq; go_wp2_with ((with_reducible refine (Hla.out _ hS).mono ?_); rintro x' w4 ⟨rfl, hb⟩); first | exact hS | exact hS.trans (hb.mono hS.size))) | (refine TextRun.skip rfl ?_) | ((refine TextRun.wantedT rfl rfl rfl ?_); (apply Exists.intro); (apply And.intro); (intro w1 hS K hK; have hc := bcell hS; have hs := blt hS; have d0 := keep hS d0; have cq := keep hS cq; go_wp2_with ((with_reducible refine (Hla.out _ hS).mono ?_); rintro x' w4 ⟨rfl, hb⟩); first | exact hS | exact hS.trans (hb.mono hS.size)))); (simp only [Act.put, List.setIfInBounds_toArray, List.set_cons_zero, List.set_cons_succ]))
    refine TextRun.done ?_
    intro w3 hb
    go_wp2
    go_ret
    exact ⟨rfl, hb⟩


noncomputable def behB (r : Nat → Nat → Bool) (n : Nat) (i : Int) (j : Nat) : Bool := befB n r i j
noncomputable def besB (r : Nat → Nat → Bool) (n : Nat) (i : Int) (j : Nat) : Bool := inN n i && (decide ((j : Int) ≠ i) && (!befB n r i j && !befB n r j i))
/-- The places below K that p marks. -/
def marks (p : Nat → Bool) (K : Nat) : List Int := ((List.range K).filter p).map (fun (x : Nat) => (x : Int))
theorem marks_zero (p : Nat → Bool) : marks p 0 = [] := rfl
theorem marks_succ (p : Nat → Bool) (K : Nat) : marks p (K + 1) = marks p K ++ (if p K then [(K : Int)] else []) := by
  unfold marks
  rw [List.range_succ, List.filter_append, List.map_append]
  cases h : p K <;> simp [h]
theorem marks_yes {p : Nat → Bool} {K : Nat} (h : p K = true) : marks p (K + 1) = marks p K ++ [(K : Int)] := by rw [marks_succ, h]; rfl
theorem marks_no {p : Nat → Bool} {K : Nat} (h : p K = false) : marks p (K + 1) = marks p K := by rw [marks_succ, h]; simp
theorem marks_len (p : Nat → Bool) (K : Nat) : (marks p K).length ≤ K := by
  unfold marks; rw [List.length_map]; exact Nat.le_trans (List.length_filter_le _ _) (by simp)
theorem marks_fit (p : Nat → Bool) {K : Nat} (hK : K ≤ 100) : ∀ x ∈ marks p K, Fit x :=
  nats_fit (n := K) (fun x hx => List.mem_range.1 (List.mem_filter.1 hx).1) (by omega)
theorem marks_congr {p q : Nat → Bool} {K : Nat} (h : ∀ j, j < K → p j = q j) : marks p K = marks q K := by
  unfold marks; congr 1; exact List.filter_congr fun j hj => h j (List.mem_range.1 hj)


set_option maxRecDepth 20000 in
set_option maxHeartbeats 4000000 in
theorem obehind_calls {w : World} {B b : Nat} {v : Value} {l : List Ev} {n : Nat} (h : OrdAt w B b v l n) (hg : GoodL n l) (i : Int) :
    Calls Try.prog 33 #[.pointer (some ⟨b, 0, none⟩), .int .i64 i] w (OwnsPost eltI w (marks (behB (rD l) n i) n)) := by
  obtain ⟨a, c, rfl, cb, _⟩ := h.read
  have hn := hg.le
  have hnm : n ≤ 9223372036854775807 := by omega
  have HO := Lib.hid h
  have HG := Lib.hid hg
  clear h hg
  go_enter Try.func33, Try.ntmps33
  go_wp2_with fail
  go_loopw [5, 12] (fun u x wr => ∃ k : Nat, k ≤ n ∧ x = .int .i64 k ∧ Hid (OwnL eltI wr w.heap.size u (marks (behB (rD l) n i) k) ∧ Below w.heap.size w wr)) (fun _ x _ => n - (intOf x).toNat)
  case atStart => exact ⟨0, Nat.zero_le _, rfl, ⟨OwnL.nil .., Below.refl ..⟩⟩
  case round =>
    obtain ⟨k, hk, rfl, HL⟩ := hrel
    by_cases hkn : k < n
    · go_wp2_with fail
      refine (before_calls (HO.out.below HL.out.2) HG.out i k).mono ?_
      rintro e wy ⟨rfl, hb⟩
      have HL := Lib.hid (And.intro (HL.out.1.below hb) (HL.out.2.trans (hb.mono HL.out.2.size)))
      clear hb
      rcases Bool.eq_false_or_eq_true (befB n (rD l) i k) with hb | hb
      · have Hb : Hid (behB (rD l) n i k = true) := hb
        rw [hb]
        clear hb
        go_wp2_with (at_builtin; go_loud (refine wpList_push eltI rfl (.tmp 19) (.tmp 21) rfl (k : Int) rfl rfl rfl HL.out.1 HL.out.2.size (by have := marks_len (behB (rD l) n i) k; omega) ?_); intro v' wz hown hw hv; (have HL' := Lib.hid (And.intro (show OwnL eltI wz w.heap.size v' (marks (behB (rD l) n i) (k + 1)) by rw [marks_yes Hb.out]; exact hown) (Wrote.below HL.out.2 hw HL.out.2.size (fun q hq => (HL.out.1.lt hq).1)))); clear hown hw hv)
        go_roundw
        case rel => exact ⟨k + 1, by omega, by go_num, HL'.out⟩
        case measure => simp [intOf]; omega
      · have Hb : Hid (behB (rD l) n i k = false) := hb
        rw [hb]
        clear hb
        go_wp2
        go_roundw
        case rel => exact ⟨k + 1, by omega, by go_num, by rw [marks_no Hb.out]; exact HL.out⟩
        case measure => simp [intOf]; omega
    · have hkn' : k = n := by omega
      subst hkn'
      go_wp2
      go_ret
      exact ⟨_, rfl, HL.out.1, HL.out.2⟩

set_option maxRecDepth 20000 in
set_option maxHeartbeats 4000000 in
theorem rbehind_calls {w : World} {rb : Nat} {a0 : Option Addr} {n c : Nat} {v1 v2 : Value} {l : List Ev} (h : ROrdAt w rb a0 n c v1 v2 l) (hg : GoodL n l) (i : Int) :
    Calls Try.prog 34 #[.pointer (some ⟨rb, 0, none⟩), .int .i64 i] w (OwnsPost eltI w (marks (behB (rD l) n i) n)) := by
  have hn := hg.le
  have hnm : n ≤ 9223372036854775807 := by omega
  have hc : w.cell? ⟨rb, 0, none⟩ = some (.slice a0 n c) := cell_of_block h.blk
  have HO := Lib.hid h
  clear h hg
  go_enter Try.func34, Try.ntmps34
  go_wp2_with fail
  go_loopw [5, 6] (fun u x wr => ∃ k : Nat, k ≤ n ∧ x = .int .i64 k ∧ Hid (OwnL eltI wr w.heap.size u (marks (behB (rD l) n i) k) ∧ Below w.heap.size w wr)) (fun _ x _ => n - (intOf x).toNat)
  case atStart => exact ⟨0, Nat.zero_le _, rfl, ⟨OwnL.nil .., Below.refl ..⟩⟩
  case round =>
    obtain ⟨k, hk, rfl, HL⟩ := hrel
    have hc' := keep HL.out.2 hc
    by_cases hkn : k < n
    · go_wp2_with fail
      refine (rbefore_calls (HO.out.below HL.out.2) i k).mono ?_
      rintro e wy ⟨rfl, rfl⟩
      rcases Bool.eq_false_or_eq_true (befB n (rD l) i k) with hb | hb
      · have Hb : Hid (behB (rD l) n i k = true) := hb
        rw [hb]
        clear hb
        go_wp2_with (at_builtin; go_loud (refine wpList_push eltI rfl (.tmp 22) (.tmp 24) rfl (k : Int) rfl rfl rfl HL.out.1 HL.out.2.size (by have := marks_len (behB (rD l) n i) k; omega) ?_); intro v' wz hown hw hv; (have HL' := Lib.hid (And.intro (show OwnL eltI wz w.heap.size v' (marks (behB (rD l) n i) (k + 1)) by rw [marks_yes Hb.out]; exact hown) (Wrote.below HL.out.2 hw HL.out.2.size (fun q hq => (HL.out.1.lt hq).1)))); clear hown hw hv)
        go_roundw
        case rel => exact ⟨k + 1, by omega, by go_num, HL'.out⟩
        case measure => simp [intOf]; omega
      · have Hb : Hid (behB (rD l) n i k = false) := hb
        rw [hb]
        clear hb
        go_wp2
        go_roundw
        case rel => exact ⟨k + 1, by omega, by go_num, by rw [marks_no Hb.out]; exact HL.out⟩
        case measure => simp [intOf]; omega
    · have hkn' : k = n := by omega
      subst hkn'
      go_wp2
      go_ret
      exact ⟨_, rfl, HL.out.1, HL.out.2⟩


set_option maxRecDepth 20000 in
set_option maxHeartbeats 8000000 in
theorem obeside_calls {w : World} {B b : Nat} {v : Value} {l : List Ev} {n : Nat} (h : OrdAt w B b v l n) (hg : GoodL n l) (i : Int) :
    Calls Try.prog 35 #[.pointer (some ⟨b, 0, none⟩), .int .i64 i] w (OwnsPost eltI w (marks (besB (rD l) n i) n)) := by
  have hp : ∀ W, Below w.heap.size w W → Calls Try.prog 52 #[.pointer (some ⟨b, 0, none⟩), .int .i64 i] W fun e w' => e = .returned (.bool (inN n i)) ∧ W = w' := fun W hb => place_calls (h.below hb) hg.le i
  have Hp := Lib.hid hp
  obtain ⟨a, c, rfl, cb, _⟩ := h.read
  have hn := hg.le
  have hnm : n ≤ 9223372036854775807 := by omega
  have HO := Lib.hid h
  have HG := Lib.hid hg
  clear h hg hp
  go_enter Try.func35, Try.ntmps35
  go_wp2_with fail
  go_loopw [5, 12] (fun u x wr => ∃ k : Nat, k ≤ n ∧ x = .int .i64 k ∧ Hid (OwnL eltI wr w.heap.size u (marks (besB (rD l) n i) k) ∧ Below w.heap.size w wr)) (fun _ x _ => n - (intOf x).toNat)
  case atStart => exact ⟨0, Nat.zero_le _, rfl, ⟨OwnL.nil .., Below.refl ..⟩⟩
  case round =>
    obtain ⟨k, hk, rfl, HL⟩ := hrel
    by_cases hkn : k < n
    · have Hq : Hid (∀ W, Below wr.heap.size wr W → Calls Try.prog 52 #[.pointer (some ⟨b, 0, none⟩), .int .i64 i] W fun e w' => e = .returned (.bool (inN n i)) ∧ W = w') := fun W hb => Hp.out W (HL.out.2.trans (hb.mono HL.out.2.size))
      have H1 : Hid (∀ W, Below wr.heap.size wr W → Calls Try.prog 18 #[.pointer (some ⟨b, 0, none⟩), .int .i64 i, .int .i64 (k : Int)] W fun e w' => e = .returned (.bool (befB n (rD l) i k)) ∧ Below W.heap.size W w') := fun W hb => before_calls (HO.out.below (HL.out.2.trans (hb.mono HL.out.2.size))) HG.out i k
      have H2 : Hid (∀ W, Below wr.heap.size wr W → Calls Try.prog 18 #[.pointer (some ⟨b, 0, none⟩), .int .i64 (k : Int), .int .i64 i] W fun e w' => e = .returned (.bool (befB n (rD l) k i)) ∧ Below W.heap.size W w') := fun W hb => before_calls (HO.out.below (HL.out.2.trans (hb.mono HL.out.2.size))) HG.out k i
      have HV : Hid (besB (rD l) n i k = (inN n i && ((i != (k : Int)) && (!befB n (rD l) i k && !befB n (rD l) k i)))) := by
        unfold Hid besB
        congr 2
        rw [Bool.eq_iff_iff]
        simp only [decide_eq_true_iff, bne_iff_ne]
        constructor <;> intro h1 h2 <;> exact h1 h2.symm
      revert Hq H1 H2 HV
      generalize inN n i = p1
      generalize befB n (rD l) i k = p3
      generalize befB n (rD l) k i = p4
      intro Hq H1 H2 HV
      cases p1
      · have Hb : Hid (besB (rD l) n i k = false) := HV.out
        clear HV H1 H2
        (go_wp2_with fail); (refine (Hq.out _ (Below.refl _ _)).mono ?_); (rintro e w' ⟨rfl, rfl⟩)
        go_wp2
        go_roundw
        case rel => exact ⟨k + 1, by omega, by go_num, by rw [marks_no Hb.out]; exact HL.out⟩
        case measure => simp [intOf]; omega
      · by_cases hik : i = (k : Int)
        · have hik' : (i != (k : Int)) = false := by simp [hik]
          have Hb : Hid (besB (rD l) n i k = false) := by have := HV.out; rw [hik'] at this; exact this
          clear HV H1 H2 hik
          (go_wp2_with fail); (refine (Hq.out _ (Below.refl _ _)).mono ?_); (rintro e w' ⟨rfl, rfl⟩)
          go_wp2
          go_roundw
          case rel => exact ⟨k + 1, by omega, by go_num, by rw [marks_no Hb.out]; exact HL.out⟩
          case measure => simp [intOf]; omega
        · have hik' : (i != (k : Int)) = true := by simp [hik]
          cases p3
          · cases p4
            · have Hb : Hid (besB (rD l) n i k = true) := by have := HV.out; rw [hik'] at this; exact this
              clear HV hik
              (go_wp2_with fail); (refine (Hq.out _ (Below.refl _ _)).mono ?_); (rintro e w' ⟨rfl, rfl⟩); (go_wp2_with fail); (refine (H1.out _ (Below.refl _ _)).mono ?_); (rintro e w6 ⟨rfl, hb6⟩); (have HL := Lib.hid (And.intro (HL.out.1.below hb6) (HL.out.2.trans (hb6.mono HL.out.2.size)))); (go_wp2_with fail); (refine (H2.out _ hb6).mono ?_); (rintro e w7 ⟨rfl, hb7⟩); (have HL := Lib.hid (And.intro (HL.out.1.below hb7) (HL.out.2.trans (hb7.mono HL.out.2.size))))
              clear hb6 hb7
              go_wp2_with (at_builtin; go_loud (refine wpList_push eltI rfl (.tmp 37) (.tmp 39) rfl (k : Int) rfl rfl rfl HL.out.1 HL.out.2.size (by have := marks_len (besB (rD l) n i) k; omega) ?_); intro v' wz hown hw hv; (have HL' := Lib.hid (And.intro (show OwnL eltI wz w.heap.size v' (marks (besB (rD l) n i) (k + 1)) by rw [marks_yes Hb.out]; exact hown) (Wrote.below HL.out.2 hw HL.out.2.size (fun q hq => (HL.out.1.lt hq).1)))); clear hown hw hv)
              go_roundw
              case rel => exact ⟨k + 1, by omega, by go_num, HL'.out⟩
              case measure => simp [intOf]; omega
            · have Hb : Hid (besB (rD l) n i k = false) := by have := HV.out; rw [hik'] at this; exact this
              clear HV hik
              (go_wp2_with fail); (refine (Hq.out _ (Below.refl _ _)).mono ?_); (rintro e w' ⟨rfl, rfl⟩); (go_wp2_with fail); (refine (H1.out _ (Below.refl _ _)).mono ?_); (rintro e w6 ⟨rfl, hb6⟩); (have HL := Lib.hid (And.intro (HL.out.1.below hb6) (HL.out.2.trans (hb6.mono HL.out.2.size)))); (go_wp2_with fail); (refine (H2.out _ hb6).mono ?_); (rintro e w7 ⟨rfl, hb7⟩); (have HL := Lib.hid (And.intro (HL.out.1.below hb7) (HL.out.2.trans (hb7.mono HL.out.2.size))))
              clear hb6 hb7
              go_wp2
              go_roundw
              case rel => exact ⟨k + 1, by omega, by go_num, by rw [marks_no Hb.out]; exact HL.out⟩
              case measure => simp [intOf]; omega
          · have Hb : Hid (besB (rD l) n i k = false) := by have := HV.out; rw [hik'] at this; exact this
            clear HV hik
            (go_wp2_with fail); (refine (Hq.out _ (Below.refl _ _)).mono ?_); (rintro e w' ⟨rfl, rfl⟩); (go_wp2_with fail); (refine (H1.out _ (Below.refl _ _)).mono ?_); (rintro e w6 ⟨rfl, hb6⟩); (have HL := Lib.hid (And.intro (HL.out.1.below hb6) (HL.out.2.trans (hb6.mono HL.out.2.size))))
            clear hb6
            go_wp2
            go_roundw
            case rel => exact ⟨k + 1, by omega, by go_num, by rw [marks_no Hb.out]; exact HL.out⟩
            case measure => simp [intOf]; omega
    · have hkn' : k = n := by omega
      subst hkn'
      go_wp2
      go_ret
      exact ⟨_, rfl, HL.out.1, HL.out.2⟩


set_option maxRecDepth 20000 in
set_option maxHeartbeats 8000000 in
theorem rbeside_calls {w : World} {rb : Nat} {a0 : Option Addr} {n c : Nat} {v1 v2 : Value} {l : List Ev} (h : ROrdAt w rb a0 n c v1 v2 l) (hg : GoodL n l) (i : Int) :
    Calls Try.prog 36 #[.pointer (some ⟨rb, 0, none⟩), .int .i64 i] w (OwnsPost eltI w (marks (besB (rD l) n i) n)) := by
  have hn := hg.le
  have hnm : n ≤ 9223372036854775807 := by omega
  have hc : w.cell? ⟨rb, 0, none⟩ = some (.slice a0 n c) := cell_of_block h.blk
  have hp := rplace_calls h i
  have HO := Lib.hid h
  clear h hg
  have hV : ∀ k : Nat, besB (rD l) n i k = (inN n i && (((k : Int) != i) && (!befB n (rD l) i k && !befB n (rD l) k i))) := by
    intro k
    unfold besB
    congr 2
    rw [Bool.eq_iff_iff]
    simp only [decide_eq_true_iff, bne_iff_ne]
  have HV := Lib.hid hV
  clear hV
  rcases Bool.eq_false_or_eq_true (inN n i) with hi | hi
  · rw [hi] at hp
    have Hp := Lib.hid hp
    have Hi := Lib.hid hi
    clear hp hi
    go_enter Try.func36, Try.ntmps36
    go_wp2_with fail
    refine Hp.out.mono ?_
    rintro e w' ⟨rfl, rfl⟩
    go_wp2_with fail
    go_loopw [5, 7] (fun u x wr => ∃ k : Nat, k ≤ n ∧ x = .int .i64 k ∧ Hid (OwnL eltI wr w.heap.size u (marks (besB (rD l) n i) k) ∧ Below w.heap.size w wr)) (fun _ x _ => n - (intOf x).toNat)
    case atStart => exact ⟨0, Nat.zero_le _, rfl, ⟨OwnL.nil .., Below.refl ..⟩⟩
    case round =>
      obtain ⟨k, hk, rfl, HL⟩ := hrel
      have hc' := keep HL.out.2 hc
      by_cases hkn : k < n
      · go_wp2_with fail
        refine (rbefore_calls (HO.out.below HL.out.2) i k).mono ?_
        rintro e wy ⟨rfl, rfl⟩
        go_wp2_with fail
        refine (rbefore_calls (HO.out.below HL.out.2) k i).mono ?_
        rintro e wy ⟨rfl, rfl⟩
        have HVk := Lib.hid (HV.out k)
        rw [Hi.out] at HVk
        revert HVk
        generalize befB n (rD l) i k = p3
        generalize befB n (rD l) k i = p4
        intro HVk
        by_cases hik : (k : Int) = i
        · have hik' : ((k : Int) != i) = false := by simp [hik]
          have Hb : Hid (besB (rD l) n i k = false) := by have := HVk.out; rw [hik'] at this; exact this
          clear HVk hik
          go_wp2
          go_roundw
          case rel => exact ⟨k + 1, by omega, by go_num, by rw [marks_no Hb.out]; exact HL.out⟩
          case measure => simp [intOf]; omega
        · have hik' : ((k : Int) != i) = true := by simp [hik]
          cases p3
          · cases p4
            · have Hb : Hid (besB (rD l) n i k = true) := by have := HVk.out; rw [hik'] at this; exact this
              clear HVk hik
              go_wp2_with (at_builtin; go_loud (refine wpList_push eltI rfl (.tmp 43) (.tmp 45) rfl (k : Int) rfl rfl rfl HL.out.1 HL.out.2.size (by have := marks_len (besB (rD l) n i) k; omega) ?_); intro v' wz hown hw hv; (have HL' := Lib.hid (And.intro (show OwnL eltI wz w.heap.size v' (marks (besB (rD l) n i) (k + 1)) by rw [marks_yes Hb.out]; exact hown) (Wrote.below HL.out.2 hw HL.out.2.size (fun q hq => (HL.out.1.lt hq).1)))); clear hown hw hv)
              go_roundw
              case rel => exact ⟨k + 1, by omega, by go_num, HL'.out⟩
              case measure => simp [intOf]; omega
            · have Hb : Hid (besB (rD l) n i k = false) := by have := HVk.out; rw [hik'] at this; exact this
              clear HVk hik
              go_wp2
              go_roundw
              case rel => exact ⟨k + 1, by omega, by go_num, by rw [marks_no Hb.out]; exact HL.out⟩
              case measure => simp [intOf]; omega
          · have Hb : Hid (besB (rD l) n i k = false) := by have := HVk.out; rw [hik'] at this; exact this
            clear HVk hik
            go_wp2
            go_roundw
            case rel => exact ⟨k + 1, by omega, by go_num, by rw [marks_no Hb.out]; exact HL.out⟩
            case measure => simp [intOf]; omega
      · have hkn' : k = n := by omega
        subst hkn'
        go_wp2
        go_ret
        exact ⟨_, rfl, HL.out.1, HL.out.2⟩
  · rw [hi] at hp
    have Hp := Lib.hid hp
    have he : marks (besB (rD l) n i) n = [] := by
      rw [marks_congr (q := fun _ => false) (fun j _ => by rw [HV.out j, hi]; rfl)]
      unfold marks; simp
    have He := Lib.hid he
    clear hp hi he
    rw [He.out]
    go_enter Try.func36, Try.ntmps36
    go_wp2_with fail
    refine Hp.out.mono ?_
    rintro e w' ⟨rfl, rfl⟩
    go_wp2
    go_ret
    exact ⟨_, rfl, OwnL.nil .., Below.refl ..⟩

set_option maxRecDepth 20000 in
set_option maxHeartbeats 8000000 in
theorem orderLists_law {w : World} {a0 : Option Addr} {n c : Nat} {l : List Ev} (h : IsEvs w a0 n c l) (i : Int) :
    Calls Try.prog 8 #[.slice a0 n c, .int .i64 i] w fun e w' => e = .returned (.bool true) ∧ Below w.heap.size w w' := by
  have hnm : n ≤ 9223372036854775807 := by have := h.le; have := h.cap; unfold maxLen at *; omega
  have Hev := Lib.hid h
  clear h
  go_enter Try.func8, Try.ntmps8
  go_wp2_with fail
  refine (oawake_calls _).mono ?_
  rintro e w1 ⟨rfl, hb1⟩
  have Hc := Lib.hid (both_calls (Hev.out.below hb1))
  have HB1 := Lib.hid hb1
  clear hb1
  go_wp2_with fail
  refine Hc.out.mono ?_
  rintro e w2 ⟨hb2, ⟨_, rfl⟩ | ⟨_, hg, b, v, v1, v2, B, rfl, hO, hM1, hM2⟩⟩
  · have HB2 := Lib.hid (HB1.out.trans (hb2.mono HB1.out.size))
    clear hb2
    go_wp2
    go_ret
    exact ⟨rfl, HB2.out.alloc HB2.out.size _⟩
  obtain ⟨sa, sp, sq, rfl⟩ := hM1.slice
  obtain ⟨ta, tp, tq, rfl⟩ := hM2.slice
  have hB2 := HB1.out.trans (hb2.mono HB1.out.size)
  have hal : Below w2.heap.size w2 (w2.alloc (.cells #[.slice a0 n c, .slice sa sp sq, .slice ta tp tq] 27)) := (Below.refl _ w2).alloc (Nat.le_refl _) _
  have hR3 : ROrdAt (w2.alloc (.cells #[.slice a0 n c, .slice sa sp sq, .slice ta tp tq] 27)) w2.heap.size a0 n c (.slice sa sp sq) (.slice ta tp tq) l :=
    ⟨(MapKept.heap_alloc w2 _).1, ⟨B, hM1.below hal⟩, ⟨B, hM2.below hal⟩, (Hev.out.below hB2).below hal⟩
  have hB3 := hB2.trans (hal.mono hB2.size)
  have HX := Lib.hid (And.intro (hO.below hal) (And.intro hR3 hB3))
  have HG := Lib.hid hg
  clear hb2 hB2 hal hR3 hB3 hO hM1 hM2 Hc hg
  go_wp2_with fail
  revert HX
  generalize w2.alloc (.cells #[.slice a0 n c, .slice sa sp sq, .slice ta tp tq] 27) = w3
  intro HX
  have HO := Lib.hid HX.out.1
  have HR := Lib.hid HX.out.2.1
  have HB3 := Lib.hid HX.out.2.2
  clear HX
  refine (oahead_calls HO.out HG.out i).mono ?_
  rintro e w4 ⟨rfl, hb⟩
  have HB := Lib.hid hb
  clear hb
  go_wp2_with fail
  refine (rahead_calls (HR.out.below HB.out) HG.out i).mono ?_
  rintro e w5 ⟨rfl, hb⟩
  have HB := Lib.hid (HB.out.trans (hb.mono HB.out.size))
  clear hb
  generalize aheadP n l i = ah
  go_wp2_with fail
  refine (obehind_calls (HO.out.below HB.out) HG.out i).mono ?_
  rintro e w6 ⟨u1, rfl, hu, hb⟩
  obtain ⟨x1, y1, rfl, hI1⟩ := hu.ints (marks_fit _ HG.out.le)
  have HB := Lib.hid (HB.out.trans (hb.mono HB.out.size))
  have HI1 := Lib.hid hI1
  clear hb hu hI1
  go_wp2_with fail
  refine (rbehind_calls (HR.out.below HB.out) HG.out i).mono ?_
  rintro e w7 ⟨u2, rfl, hu, hb⟩
  obtain ⟨x2, y2, rfl, hI2⟩ := hu.ints (marks_fit _ HG.out.le)
  have HB := Lib.hid (HB.out.trans (hb.mono HB.out.size))
  have HI := Lib.hid (And.intro (HI1.out.below hb) hI2)
  clear hb hu hI2 HI1
  go_wp2_with fail
  refine (obeside_calls (HO.out.below HB.out) HG.out i).mono ?_
  rintro e w8 ⟨u3, rfl, hu, hb⟩
  obtain ⟨x3, y3, rfl, hI3⟩ := hu.ints (marks_fit _ HG.out.le)
  have HB := Lib.hid (HB.out.trans (hb.mono HB.out.size))
  have HI := Lib.hid (And.intro (HI.out.1.below hb) (And.intro (HI.out.2.below hb) hI3))
  clear hb hu hI3
  go_wp2_with fail
  refine (rbeside_calls (HR.out.below HB.out) HG.out i).mono ?_
  rintro e w9 ⟨u4, rfl, hu, hb⟩
  obtain ⟨x4, y4, rfl, hI4⟩ := hu.ints (marks_fit _ HG.out.le)
  have HB := Lib.hid (HB.out.trans (hb.mono HB.out.size))
  have HI := Lib.hid (And.intro (HI.out.1.below hb) (And.intro (HI.out.2.1.below hb) (And.intro (HI.out.2.2.below hb) hI4)))
  clear hb hu hI4
  go_wp2_with fail
  refine (equal_calls HI.out.1 HI.out.2.1).mono ?_
  rintro e w10 ⟨rfl, hb⟩
  have HB := Lib.hid (HB.out.trans (hb.mono HB.out.size))
  have HI := Lib.hid (And.intro (HI.out.2.2.1.below hb) (HI.out.2.2.2.below hb))
  clear hb
  rw [decide_eq_true rfl]
  go_wp2_with fail
  refine (equal_calls HI.out.1 HI.out.2).mono ?_
  rintro e w11 ⟨rfl, hb⟩
  have HB := Lib.hid (HB.out.trans (hb.mono HB.out.size))
  clear hb
  rw [decide_eq_true rfl]
  go_wp2
  go_ret
  exact ⟨rfl, HB3.out.trans (HB.out.mono HB3.out.size)⟩

end Go.Proofs.Ythooddkoldfebaa
