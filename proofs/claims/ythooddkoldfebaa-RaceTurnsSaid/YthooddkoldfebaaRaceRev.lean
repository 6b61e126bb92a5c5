/-
  RaceReverse: the places that are told of any pair, of both; the law.
-/
import Derived.Test.YthooddkoldfebaaRaceAll
import Derived.Test.YthooddkoldfebaaReg4
import Derived.Laws.AppendOwnNone
set_option linter.unusedSimpArgs false
set_option linter.unusedVariables false
namespace Go.Proofs.Ythooddkoldfebaa
open Go.ChangeShapes Go.WideShapes Go.ChangeAt Go.RowKit Go.Deep

/-- Is the pair among those? -/
def hasP (R : List (Nat × Nat)) (f s : Int) : Bool := R.any fun p => ((p.1 : Int) == f && (p.2 : Int) == s)
theorem hasP_iff {R : List (Nat × Nat)} {f s : Int} : hasP R f s = true ↔ ∃ p ∈ R, (p.1 : Int) = f ∧ (p.2 : Int) = s := by
  unfold hasP
  rw [List.any_eq_true]
  constructor
  · rintro ⟨p, hp, h⟩
    rw [Bool.and_eq_true] at h
    exact ⟨p, hp, by simpa using h.1, by simpa using h.2⟩
  · rintro ⟨p, hp, h1, h2⟩
    exact ⟨p, hp, by rw [Bool.and_eq_true]; exact ⟨by simpa using h1, by simpa using h2⟩⟩
theorem hasP_nil (f s : Int) : hasP [] f s = false := rfl
theorem hasP_succ {R : List (Nat × Nat)} {m : Nat} {p : Nat × Nat} (h : R[m]? = some p) (f s : Int) : hasP (R.take (m + 1)) f s = (hasP (R.take m) f s || ((p.1 : Int) == f && (p.2 : Int) == s)) := by
  unfold hasP
  rw [List.take_add_one, h, List.any_append]
  simp only [Option.toList, List.any_cons, List.any_nil, Bool.or_false]
theorem has_at {l : List Ev} {n i : Nat} (hi : i < n) (f : Int) : hasP (allN l n) f (i : Int) = decide (f ∈ natsI (racesAt l i)) := by
  rw [Bool.eq_iff_iff, hasP_iff, decide_eq_true_iff]
  unfold natsI
  rw [List.mem_map]
  constructor
  · rintro ⟨p, hp, h1, h2⟩
    have h3 := (allN_mem.1 hp).2
    have h4 : p.2 = i := by omega
    rw [h4] at h3
    exact ⟨p.1, h3, h1⟩
  · rintro ⟨k, hk, rfl⟩
    exact ⟨(k, i), allN_mem.2 ⟨hi, hk⟩, rfl, rfl⟩
theorem has_no {l : List Ev} {n : Nat} {f s : Int} (h : s < 0 ∨ (n : Int) ≤ s) : hasP (allN l n) f s = false := by
  cases hb : hasP (allN l n) f s
  · rfl
  · obtain ⟨p, hp, _, h2⟩ := hasP_iff.1 hb
    have := (allN_mem.1 hp).1
    omega
theorem has_yes {l : List Ev} {n : Nat} {f s : Int} (h : hasP (allN l n) f s = true) : ∃ k i : Nat, f = (k : Int) ∧ s = (i : Int) ∧ i < n ∧ k ∈ racesAt l i := by
  obtain ⟨p, hp, h1, h2⟩ := hasP_iff.1 h
  exact ⟨p.1, p.2, h1.symm, h2.symm, (allN_mem.1 hp).1, (allN_mem.1 hp).2⟩
noncomputable def revRes (n : Nat) (l : List Ev) (f s : Int) : List Nat × Int := if wrongS n l ≠ 0 then ([], wrongS n l) else if hasP (allN l n) f s then (turnP l f.toNat s.toNat, 0) else ([], 1)
theorem revRes_bad {n : Nat} {l : List Ev} {f s : Int} (h : wrongS n l ≠ 0) : revRes n l f s = ([], wrongS n l) := if_pos h
theorem revRes_no {n : Nat} {l : List Ev} {f s : Int} (h : wrongS n l = 0) (h' : hasP (allN l n) f s = false) : revRes n l f s = ([], 1) := by unfold revRes; rw [if_neg (by rw [h]; simp), h']; rfl
theorem revRes_yes {n : Nat} {l : List Ev} {k i : Nat} (h : wrongS n l = 0) (h' : hasP (allN l n) (k : Int) (i : Int) = true) : revRes n l (k : Int) (i : Int) = (turnP l k i, 0) := by unfold revRes; rw [if_neg (by rw [h]; simp), if_pos h']; rfl
/-- What both Reverse hand back. -/
def RevPost (w : World) (r : List Nat × Int) (e : Ending) (w' : World) : Prop := ∃ a c, e = .returned (.tuple #[.slice a r.1.length c, .int .i64 r.2]) ∧ IsInts w' a r.1.length c (natsI r.1) ∧ Below w.heap.size w w'
theorem ints_nil (w : World) : IsInts w none 0 0 [] := ⟨⟨rfl, fun h => absurd h (Nat.lt_irrefl _)⟩, rfl, Nat.le_refl _, Nat.zero_le _, fun _ h => by cases h⟩
theorem RevPost.none {w w' : World} {z : Int} (hb : Below w.heap.size w w') : RevPost w ([], z) (.returned (.tuple #[.slice none 0 0, .int .i64 z])) w' := ⟨Option.none, 0, rfl, ints_nil _, hb⟩
theorem IsInts.clip {w : World} {a : Option Addr} {n c : Nat} {xs : List Int} (h : IsInts w a n c xs) : IsInts w a n n xs := ⟨h.reads, h.len, Nat.le_refl _, Nat.le_trans h.le h.cap, h.wf⟩
theorem turnP_fit {l : List Ev} {k i : Nat} (hk : k < i) (hi : i ≤ 1000) : ∀ x ∈ natsI (turnP l k i), Fit x := by
  intro x hx
  obtain ⟨j, hj, rfl⟩ := List.mem_map.1 hx
  have := turnP_lt hk hj
  exact Fit.of (by omega) (by omega)
theorem turnP_len_le {l : List Ev} {k i : Nat} (hk : k < i) : (turnP l k i).length ≤ 2 * i + 1 := by
  rw [turnP_len]
  have := restP_len (rD l) k i
  omega

theorem one_newR (w : World) (A : Array Value) (t : TypeId) : (w.alloc (.cells A t)).heap[w.heap.size]? = some (.cells A t (0, 0)) ∧ Below w.heap.size w (w.alloc (.cells A t)) := ⟨(MapKept.heap_alloc w (.cells A t)).1, (Below.refl _ w).alloc (Nat.le_refl _) _⟩
set_option maxHeartbeats 2000000 in
theorem clipI_calls {w : World} {a : Option Addr} {n c : Nat} {xs : List Int} (h : IsInts w a n c xs) :
    Calls Try.prog 75 #[.slice a n c] w fun e w' => e = .returned (.slice a n n) ∧ w = w' := by
  have h1 := h.le
  have h2' : c ≤ 9223372036854775807 := by have h2 := h.cap; unfold maxLen at h2; omega
  clear h
  go_enter Try.func75, Try.ntmps75
  go_wp2
  go_ret
  exact ⟨rfl, rfl⟩

theorem SeesP.nat_at {w : World} {n c : Nat} {a : Option Addr} {R : List (Nat × Nat)} (h : SeesP w (.slice a n c) (natsP R)) {i : Nat} {p : Nat × Nat} (hq : R[i]? = some p) : ∃ g, a = some ⟨g, 0, none⟩ ∧ w.cell? ⟨g, i * 2, none⟩ = some (.int .i64 (p.1 : Int)) ∧ w.cell? ⟨g, i * 2 + 1, none⟩ = some (.int .i64 (p.2 : Int)) := by
  obtain ⟨a', c', he, _, _, hat⟩ := h.ex
  cases he
  exact hat i _ (natsP_get hq)
theorem SeesP.nats {w : World} {v : Value} {R : List (Nat × Nat)} (h : SeesP w v (natsP R)) : ∃ a c, v = .slice a R.length c ∧ R.length ≤ c := by
  obtain ⟨a', c', he, hl, _, _⟩ := h.ex
  rw [natsP_len] at he hl
  exact ⟨a', c', he, hl⟩
/-- A list that is read. -/
def AtL (w : World) (a : Option Addr) (R : List Int) : Prop := ∀ (m : Nat) (q : Int), R[m]? = some q → ∃ g, a = some ⟨g, 0, none⟩ ∧ w.cell? ⟨g, m, none⟩ = some (.int .i64 q)
theorem not_mem_succ {R : List Int} {m : Nat} {q f : Int} (h : R[m]? = some q) (h1 : f ∉ R.take m) (h2 : f ≠ q) : f ∉ R.take (m + 1) := by
  rw [List.take_add_one, h]
  intro hm
  rcases List.mem_append.1 hm with hm | hm
  · exact h1 hm
  · simp at hm; exact h2 hm
set_option maxRecDepth 20000 in
set_option maxHeartbeats 4000000 in
theorem index_calls {w : World} {a : Option Addr} {n c : Nat} {R : List Int} (f : Int) (hn : R.length = n) (hnc : n ≤ c) (hm : n ≤ 1000000) (H : AtL w a R) :
    Calls Try.prog 92 #[.slice a n c, .int .i64 f] w fun e w' => ∃ z : Int, e = .returned (.int .i64 z) ∧ decide (0 ≤ z) = decide (f ∈ R) ∧ w = w' := by
  have HH := Lib.hid H
  have Hn := Lib.hid hn
  clear H hn
  have hnw : n ≤ 9223372036854775807 := by omega
  go_enter Try.func92, Try.ntmps92
  go_wp2_with fail
  go_loopw [5, 8] (fun _ x wr => ∃ m : Nat, m ≤ n ∧ x = .int .i64 m ∧ Hid (f ∉ R.take m) ∧ wr = w) (fun _ x _ => n - (intOf x).toNat)
  case atStart => exact ⟨0, Nat.zero_le _, by go_num, by unfold Hid; rw [List.take_zero]; exact List.not_mem_nil, rfl⟩
  case round =>
    obtain ⟨m, hmn, rfl, HN, rfl⟩ := hrel
    by_cases hlt : m < n
    · obtain ⟨q, hq⟩ : ∃ q, R[m]? = some q := ⟨_, List.getElem?_eq_getElem (by rw [Hn.out]; exact hlt)⟩
      obtain ⟨g, rfl, e0⟩ := HH.out m q hq
      have Hq := Lib.hid hq
      clear hq
      by_cases hfq : f = q
      · subst hfq
        have hff : (f == f) = true := by simp
        have Hf : Hid (decide ((0 : Int) ≤ (m : Int)) = decide (f ∈ R)) := by rw [Hid, decide_eq_true (Int.natCast_nonneg m), decide_eq_true (List.mem_of_getElem? Hq.out)]
        go_wp2
        go_returns
        exact ⟨_, rfl, Hf.out, rfl⟩
      · have hff : (f == q) = false := by simpa using hfq
        have HN' : Hid (f ∉ R.take (m + 1)) := not_mem_succ Hq.out HN.out hfq
        clear hfq
        go_wp2
        go_roundw
        case rel => exact ⟨m + 1, by omega, by go_num, HN', by first | rfl | trivial⟩
        case measure => simp [intOf]; omega
    · have hlt : m = n := by omega
      subst hlt
      have Hf : Hid (decide ((0 : Int) ≤ -1) = decide (f ∈ R)) := by
        have h2 := HN.out
        rw [← Hn.out, List.take_length] at h2
        rw [Hid, decide_eq_false h2]; rfl
      go_wp2
      go_ret
      exact ⟨_, rfl, Hf.out, rfl⟩
set_option maxRecDepth 20000 in
set_option maxHeartbeats 4000000 in
theorem contains_calls {w : World} {a : Option Addr} {n c : Nat} {R : List Int} (f : Int) (hn : R.length = n) (hnc : n ≤ c) (hm : n ≤ 1000000) (H : AtL w a R) :
    Calls Try.prog 73 #[.slice a n c, .int .i64 f] w fun e w' => e = .returned (.bool (decide (f ∈ R))) ∧ w = w' := by
  have HI := Lib.hid (index_calls f hn hnc hm H)
  clear hn hnc hm H
  go_enter Try.func73, Try.ntmps73
  go_wp2_with fail
  refine HI.out.mono ?_
  rintro e w' ⟨z, rfl, hz, rfl⟩
  have Hz := Lib.hid hz
  clear hz HI
  go_wp2
  go_ret
  exact ⟨by rw [← Hz.out]; rfl, rfl⟩

/-- A whole list of one's own, appended. -/
theorem wp_pushs {α : Type} (E : Elt α) {W0 : World} {o : Oper} {a : Act} {K : Act → World → Prop} {Q : Exit → Act → World → Prop} {v u : Value} {xs ys : List α} {B B' : Nat} (s x : Operand)
    (ho : o.op = .call { callee := .builtin .append, args := #[s, x], argTypes := #[E.T, E.T] })
    (hs : a.eval s = v) (hx : a.eval x = u) (hown : OwnL E W0 B v xs) (hu : OwnL E W0 B' u ys) (hB : B ≤ W0.heap.size) (hcap : xs.length + ys.length < 1000000)
    (h : ∀ v' w', OwnL E w' B v' (xs ++ ys) → Wrote (fun q => v.ownBlock = some q) W0 w' → (∀ q, v'.ownBlock = some q → v.ownBlock = some q ∨ W0.heap.size ≤ q) → K (a.put o.dst v') w') :
    o.wp Try.prog a W0 K Q := by
  obtain ⟨i0, hi, hz, hs1, hy⟩ := info_at E.hi
  have hb := E.hb
  obtain ⟨b, c, rfl, hc1, hc2, hc3, hc4⟩ := hu.slice
  cases b with
  | none =>
    have := hc3 rfl
    subst this
    have hc0 : c = 0 := by
      rcases hu.own.2 with ⟨h0, _⟩ | ⟨g, cap, cur, h0, _⟩
      · cases h0; rfl
      · cases h0
    subst hc0
    have hrun := run_append_owned_none (P := Try.prog) (w := W0) B E.T o.type E.e i0 E.size E.ht hi v xs.length _ hown.own
    have hk := h v W0 (by rw [List.append_nil]; exact hown) (Wrote.of_below (Below.refl _ W0)) (fun q hq => .inl hq)
    unfold Oper.wp execOp
    simp only [ho, resolve, invoke, builtin, Sem.run_bind, Sem.run_pure, Result.andThen_ok, List.map_toArray, List.map_cons, List.map_nil, hs, hx, List.length_nil, hrun]
    exact hk
  | some ad =>
    obtain ⟨g, o', s'⟩ := ad
    obtain ⟨rfl, rfl, _, _, hat⟩ := hc4 g o' s' rfl
    have hm : (xs.length + ys.length) * E.bytes ≤ 140737488355328 := Nat.le_trans (Nat.mul_le_mul (show xs.length + ys.length ≤ 1000000 by omega) hb) (by decide)
    refine wp_append_at (P := Try.prog) (w := W0) s x E.T ho B E.e i0 E.z E.size E.bytes E.ht hi hz hs1 hy E.hz E.hs v xs.length (xs.flatMap E.f) hs hown.own ⟨g, 0, none⟩ ys.length c (ys.flatMap E.f) hx (flat_len E.f E.size E.hf ys)
      (fun j u hj => by
        have := hat j u hj
        unfold Addr.add
        split
        · rename_i h0; subst h0; exact this
        · simpa using this)
      (fun u hu => by obtain ⟨y, _, hy⟩ := List.mem_flatMap.1 hu; exact E.h1 y u hy) (by unfold maxLen; omega) hm hB (fun v' w' hown' hg _ hv' => ?_)
    refine h v' w' ⟨?_⟩ (Wrote.of_grown hg (fun q hq => hq)) hv'
    rw [List.length_append, List.flatMap_append]; exact hown'
theorem wpList_pushs {α : Type} (E : Elt α) {W0 : World} {ops : Array Oper} {rest : List Oper} {o : Oper} {a : Act} {Q : Exit → Act → World → Prop} {v u : Value} {xs ys : List α} {B B' : Nat} (hgd : o.guard = none) (s x : Operand)
    (ho : o.op = .call { callee := .builtin .append, args := #[s, x], argTypes := #[E.T, E.T] })
    (hs : a.eval s = v) (hx : a.eval x = u) (hown : OwnL E W0 B v xs) (hu : OwnL E W0 B' u ys) (hB : B ≤ W0.heap.size) (hcap : xs.length + ys.length < 1000000)
    (h : ∀ v' w', OwnL E w' B v' (xs ++ ys) → Wrote (fun q => v.ownBlock = some q) W0 w' → (∀ q, v'.ownBlock = some q → v.ownBlock = some q ∨ W0.heap.size ≤ q) → wpList Try.prog ops Q rest (a.put o.dst v') w') :
    wpList Try.prog ops Q (o :: rest) a W0 :=
  wpList_plain hgd fun _ hK => wp_pushs E s x ho hs hx hown hu hB hcap fun v' w' h1 h2 h3 => hK _ _ (h v' w' h1 h2 h3)
theorem OwnL.atL {w : World} {B : Nat} {a : Option Addr} {n c : Nat} {R : List Int} (h : OwnL eltI w B (.slice a n c) R) : AtL w a R := by
  obtain ⟨a', c', he, _, hat⟩ := h.int_at
  cases he
  exact fun m q hq => by obtain ⟨g, h1, _, h2⟩ := hat m q hq; exact ⟨g, h1, h2⟩
theorem range_nats (j : Nat) : natsI (List.range (j + 1)) = natsI (List.range j) ++ [(j : Int)] := by rw [List.range_succ, natsI_app]; rfl
theorem turn_nats (l : List Ev) (k i : Nat) : natsI (turnP l k i) = natsI (List.range k) ++ natsI (restP (rD l) k i) ++ [(i : Int)] := by unfold turnP; rw [natsI_app, natsI_app]; rfl
set_option maxRecDepth 20000 in
set_option maxHeartbeats 8000000 in
theorem raceRev_calls {w : World} {a0 : Option Addr} {n c : Nat} {l : List Ev} (h : IsEvs w a0 n c l) (f s : Int) :
    Calls Try.prog 49 #[.slice a0 n c, .agg #[.int .i64 f, .int .i64 s]] w (RevPost w (revRes n l f s)) := by
  have hnm : n ≤ 9223372036854775807 := by have := h.le; have := h.cap; unfold maxLen at *; omega
  have Hev := Lib.hid h
  clear h
  go_enter Try.func49, Try.ntmps49
  go_wp2_with fail
  have hN := one_newR w #[.int .i64 f, .int .i64 s] 62
  revert hN
  generalize w.alloc (.cells #[.int .i64 f, .int .i64 s] 62) = w0
  rintro ⟨hA, hb1⟩
  obtain ⟨g0, hg0⟩ : ∃ g0, g0 = w.heap.size := ⟨_, rfl⟩
  rw [← hg0] at hA ⊢
  have c0 : w0.cell? ⟨g0, 0, none⟩ = some (.int .i64 f) := cell_of_block hA
  have c1 : w0.cell? ⟨g0, 1, none⟩ = some (.int .i64 s) := cell_of_block hA
  have HB0 := Lib.hid hb1
  clear hA hg0 hb1
  refine (order_calls (Hev.out.below HB0.out)).mono ?_
  rintro e w1 ⟨hb1, ⟨hz, rfl⟩ | ⟨hz, hg, b, v, rfl, hO⟩⟩
  · have HB1 := Lib.hid (HB0.out.trans (hb1.mono HB0.out.size))
    have hz' : (wrongS n l != 0) = true := by simpa [bne] using hz
    have Hq : Hid (RevPost w (revRes n l f s) (.returned (.tuple #[.slice none 0 0, .int .i64 (wrongS n l)])) w1) := by rw [Hid, revRes_bad hz]; exact RevPost.none HB1.out
    clear hb1 hz c0 c1
    generalize wrongS n l = z at *
    go_wp2
    go_returns
    exact Hq.out
  have HB1 := Lib.hid (HB0.out.trans (hb1.mono HB0.out.size))
  have HT := Lib.hid (show TgAt w1 w0.heap.size b v l n a0 c from ⟨(Hev.out.below HB0.out).below hb1, hO, hg, hz⟩)
  have hn100 : n ≤ 100 := hg.le
  have Hz := Lib.hid hz
  have c0 := keep hb1 c0
  have c1 := keep hb1 c1
  clear hb1 hg hO hz
  go_wp2_with fail
  by_cases hs0 : s < 0
  · have hd0 : decide (s < 0) = true := decide_eq_true hs0
    have Hno : Hid (hasP (allN l n) f s = false) := has_no (.inl hs0)
    clear hs0
    refine wp_ext_draw 22 mixed (by kernel_rfl) ?_
    simp only [List.take_succ_cons, List.take_zero, List.drop_succ_cons, List.drop_zero]
    repeat ((first | ((apply TextRun.go rfl rfl rfl); (focus (intro w1 hS K hK; have hc := bcell hS; have hs := blt hS; have c0 := keep hS c0; have c1 := keep hS c1; go_wp2_with (fail); first | done | exact hS | exact hS.trans (hb.mono hS.size)))) | (refine TextRun.skip rfl ?_) | ((refine TextRun.wantedT rfl rfl rfl ?_); (apply Exists.intro); (apply And.intro); (focus (intro w1 hS K hK; have hc := bcell hS; have hs := blt hS; have c0 := keep hS c0; have c1 := keep hS c1; go_wp2_with (fail); first | done | exact hS | exact hS.trans (hb.mono hS.size))))); (simp only [Act.put, List.setIfInBounds_toArray, List.set_cons_zero, List.set_cons_succ]))
    refine TextRun.done ?_
    intro w2 hb
    have HB2 := Lib.hid (HB1.out.trans (hb.mono HB1.out.size))
    clear hb c0 c1
    have Hq : Hid (RevPost w (revRes n l f s) (.returned (.tuple #[.slice none 0 0, .int .i64 1])) w2) := by rw [Hid, revRes_no Hz.out Hno.out]; exact RevPost.none HB2.out
    go_wp2
    go_returns
    exact Hq.out
  have hd0 : decide (s < 0) = false := decide_eq_false hs0
  by_cases hsn : (n : Int) ≤ s
  · have hd1 : decide ((n : Int) ≤ s) = true := decide_eq_true hsn
    have Hno : Hid (hasP (allN l n) f s = false) := has_no (.inr hsn)
    clear hs0 hsn
    refine wp_ext_draw 22 mixed (by kernel_rfl) ?_
    simp only [List.take_succ_cons, List.take_zero, List.drop_succ_cons, List.drop_zero]
    repeat ((first | ((apply TextRun.go rfl rfl rfl); (focus (intro w1 hS K hK; have hc := bcell hS; have hs := blt hS; have c0 := keep hS c0; have c1 := keep hS c1; go_wp2_with (fail); first | done | exact hS | exact hS.trans (hb.mono hS.size)))) | (refine TextRun.skip rfl ?_) | ((refine TextRun.wantedT rfl rfl rfl ?_); (apply Exists.intro); (apply And.intro); (focus (intro w1 hS K hK; have hc := bcell hS; have hs := blt hS; have c0 := keep hS c0; have c1 := keep hS c1; go_wp2_with (fail); first | done | exact hS | exact hS.trans (hb.mono hS.size))))); (simp only [Act.put, List.setIfInBounds_toArray, List.set_cons_zero, List.set_cons_succ]))
    refine TextRun.done ?_
    intro w2 hb
    have HB2 := Lib.hid (HB1.out.trans (hb.mono HB1.out.size))
    clear hb c0 c1
    have Hq : Hid (RevPost w (revRes n l f s) (.returned (.tuple #[.slice none 0 0, .int .i64 1])) w2) := by rw [Hid, revRes_no Hz.out Hno.out]; exact RevPost.none HB2.out
    go_wp2
    go_returns
    exact Hq.out
  have hd1 : decide ((n : Int) ≤ s) = false := decide_eq_false hsn
  obtain ⟨i, rfl⟩ := Int.eq_ofNat_of_zero_le (show 0 ≤ s by omega)
  have hi : i < n := by omega
  have hd1n : decide (n ≤ i) = false := decide_eq_false (by omega)
  clear hs0 hsn
  obtain ⟨x, hx⟩ : ∃ x, l[i]? = some x := ⟨_, List.getElem?_eq_getElem (by have := HT.out.good.len; omega)⟩
  have Hx := Lib.hid hx
  clear hx
  refine wp_plang_draw [0, 1, 2, 3, 4, 5, 6, 7, 8, 9, 10, 11, 12, 13, 14, 17, 18] [15, 16, 19, 20, 21] (fun w' => w'.cell? ⟨g0, 0, none⟩ = some (.int .i64 f) ∧ w'.cell? ⟨g0, 1, none⟩ = some (.int .i64 (i : Int))) mixed (by kernel_rfl) (fun c a d v w h => by cases d <;> exact h) ⟨c0, c1⟩ ?_
  simp only [picks, List.map_cons, List.map_nil, List.getD_cons_zero, List.getD_cons_succ]
  repeat ((first | (apply ReadRun.go rfl) | (apply ReadRun.wantedG rfl)); (intro y1 hS; (obtain ⟨c0, c1⟩ := hS); go_simp; first | done | exact rfl); (simp only [Act.put, List.setIfInBounds_toArray, List.set_cons_zero, List.set_cons_succ]))
  refine ReadRun.done ?_
  refine TailRunG.go rfl (fun K hK => ?_)
  go_wp2_with fail
  refine (tof_calls (HT.out.evs.below (Below.refl ..).drew) hn100 b Hx.out hi).mono ?_
  rintro e z1 ⟨rfl, hb⟩
  have hb1 : Below w1.heap.size w1 z1 := ((Below.refl w1.heap.size w1).drew).trans hb
  have HB2 := Lib.hid hb1
  have k0 := keep hb1 c0
  have k1 := keep hb1 c1
  clear hb hb1
  refine hK _ _ ⟨⟨k0, k1⟩, ?_⟩
  try simp only [Act.put, List.setIfInBounds_toArray, List.set_cons_zero, List.set_cons_succ]
  try clear hK
  try clear K
  refine TailRunG.go rfl (fun K hK => ?_)
  go_wp2_with fail
  refine (races_calls (HT.out.below HB2.out) (show i ≤ n by omega) x.t x.k x.o).mono ?_
  rintro e z2 ⟨ur, rfl, hown, hb⟩
  have HB3 := Lib.hid (HB2.out.trans (hb.mono HB2.out.size))
  have k0 := keep hb k0
  have k1 := keep hb k1
  have hown' : OwnL eltI z2 z1.heap.size ur (natsI (racesAt l i)) := by unfold racesAt; rw [getD_of Hx.out]; exact ⟨hown.own⟩
  obtain ⟨sa, sc, hu, hsc, _⟩ := hown'.int_at
  rw [natsI_len] at hu hsc
  subst hu
  have HAt := Lib.hid hown'.atL
  have hRl : (racesAt l i).length ≤ i := racesAt_len l i
  clear hb hown hown' HB2
  refine hK _ _ ⟨⟨k0, k1⟩, ?_⟩
  try simp only [Act.put, List.setIfInBounds_toArray, List.set_cons_zero, List.set_cons_succ]
  try clear hK
  try clear K
  refine TailRunG.go rfl (fun K hK => ?_)
  go_wp2_with fail
  refine (contains_calls (R := natsI (racesAt l i)) f (natsI_len _) hsc (by omega) HAt.out).mono ?_
  rintro e z3 ⟨rfl, rfl⟩
  have Hh : Hid (hasP (allN l n) f (i : Int) = decide (f ∈ natsI (racesAt l i))) := has_at hi f
  rw [← Hh.out]
  refine hK _ _ ⟨⟨k0, k1⟩, ?_⟩
  try simp only [Act.put, List.setIfInBounds_toArray, List.set_cons_zero, List.set_cons_succ]
  try clear hK
  try clear K
  clear Hh HAt hRl hsc
  have HP : Hid (hasP (allN l n) f (i : Int) = hasP (allN l n) f (i : Int)) := rfl
  revert HP
  generalize hp : hasP (allN l n) f (i : Int) = p
  intro HP
  have Hp := Lib.hid hp
  clear hp HP
  refine TailRunG.go rfl (fun K hK => ?_)
  go_wp2_with fail
  refine ⟨⟨k0, k1⟩, ?_⟩
  try clear hK
  try clear K
  refine TailRunG.go rfl (fun K hK => ?_)
  go_wp2_with fail
  refine ⟨⟨k0, k1⟩, ?_⟩
  try clear hK
  try clear K
  refine TailRunG.done ?_
  clear c0 c1
  have HB4 := Lib.hid (HB1.out.trans (HB3.out.mono HB1.out.size))
  have HT4 := Lib.hid (HT.out.below HB3.out)
  clear HB3 HT HB1
  cases p
  case false =>
    have Hq : Hid (RevPost w (revRes n l f i) (.returned (.tuple #[.slice none 0 0, .int .i64 1])) z2) := by rw [Hid, revRes_no Hz.out Hp.out]; exact RevPost.none HB4.out
    clear k0 k1
    go_wp2
    go_returns
    exact Hq.out
  obtain ⟨k, i', rfl, hi', _, hk⟩ := has_yes Hp.out
  obtain rfl : i = i' := by omega
  have hki : k < i := racesAt_lt hk
  have Hr := Lib.hid (revRes_yes Hz.out Hp.out)
  clear hk hi'
  have Hm := Lib.hid (And.intro k0 k1)
  go_wp2_with fail
  go_loopw [8, 9, 42] (fun u _ x wr => ∃ j : Nat, j ≤ k ∧ x = .int .i64 j ∧ Hid (OwnL eltI wr z2.heap.size u (natsI (List.range j)) ∧ Below z2.heap.size z2 wr)) (fun _ _ x _ => k - (intOf x).toNat)
  case atStart => exact ⟨0, Nat.zero_le _, by go_num, OwnL.nil .., Below.refl ..⟩
  case round =>
    obtain ⟨j, hj, rfl, HL⟩ := hrel
    have k0 := keep HL.out.2 k0
    have k1 := keep HL.out.2 k1
    by_cases hjk : j < k
    · go_wp2_with (at_builtin; go_loud (refine wpList_push eltI rfl (.tmp 45) (.tmp 47) rfl (j : Int) rfl rfl rfl HL.out.1 HL.out.2.size (by rw [natsI_len, List.length_range]; omega) ?_); intro v' wz hown hw hv; (have HL' := Lib.hid (And.intro (show OwnL eltI wz z2.heap.size v' (natsI (List.range (j + 1))) by rw [range_nats]; exact hown) (Wrote.below HL.out.2 hw HL.out.2.size (fun q hq => (HL.out.1.lt hq).1)))); clear hown hw hv)
      go_roundw
      case rel =>
        (repeat apply Exists.intro)
        refine And.intro ?rr rfl
        case rr => exact ⟨j + 1, by omega, by go_num, HL'.out⟩
      case measure => simp [intOf]; omega
    · have hjk : j = k := by omega
      subst hjk
      have HT5 := Lib.hid (HT4.out.below HL.out.2)
      have HZ5 := Lib.hid HL.out.2
      have HO5 := Lib.hid HL.out.1
      clear HT4 HL
      go_wp2_with fail
      refine wp_plang_draw [0, 1, 2, 3, 4, 6, 7] [5, 8, 9, 10] (fun w' => w'.cell? ⟨g0, 0, none⟩ = some (.int .i64 (j : Int)) ∧ w'.cell? ⟨g0, 1, none⟩ = some (.int .i64 (i : Int))) mixed (by kernel_rfl) (fun c a d v w h => by cases d <;> exact h) ⟨k0, k1⟩ ?_
      simp only [picks, List.map_cons, List.map_nil, List.getD_cons_zero, List.getD_cons_succ]
      repeat ((first | (apply ReadRun.go rfl) | (apply ReadRun.wantedG rfl)); (intro y1 hS; (obtain ⟨c0, c1⟩ := hS); go_simp; first | done | exact rfl); (simp only [Act.put, List.setIfInBounds_toArray, List.set_cons_zero, List.set_cons_succ]))
      refine ReadRun.done ?_
      refine TailRunG.go rfl (fun K hK => ?_)
      go_wp2_with fail
      refine (tof_calls (HT5.out.evs.below (Below.refl ..).drew) hn100 b Hx.out hi).mono ?_
      rintro e z3 ⟨rfl, hb⟩
      have hb1 : Below wr.heap.size wr z3 := ((Below.refl wr.heap.size wr).drew).trans hb
      have HZ6 := Lib.hid (HZ5.out.trans (hb1.mono HZ5.out.size))
      have HT6 := Lib.hid (HT5.out.below hb1)
      have HO6 := Lib.hid (HO5.out.below hb1)
      have k0 := keep hb1 k0
      have k1 := keep hb1 k1
      clear hb hb1 HT5 HZ5 HO5
      refine hK _ _ ⟨⟨k0, k1⟩, ?_⟩
      try simp only [Act.put, List.setIfInBounds_toArray, List.set_cons_zero, List.set_cons_succ]
      try clear hK
      try clear K
      refine TailRunG.go rfl (fun K hK => ?_)
      go_wp2_with fail
      refine (trest_calls HT6.out (show i ≤ n by omega) (show j < n by omega) x.t x.k x.o).mono ?_
      rintro e z4 ⟨ur, rfl, hur, hb⟩
      have HZ7 := Lib.hid (HZ6.out.trans (hb.mono HZ6.out.size))
      have HO7 := Lib.hid (HO6.out.below hb)
      have HU7 := Lib.hid hur
      have k0 := keep hb k0
      have k1 := keep hb k1
      clear hb hur HT6 HZ6 HO6
      refine hK _ _ ⟨⟨k0, k1⟩, ?_⟩
      try simp only [Act.put, List.setIfInBounds_toArray, List.set_cons_zero, List.set_cons_succ]
      try clear hK
      try clear K
      refine TailRunG.go rfl (fun K hK => ?_)
      refine wp_pushs eltI (.tmp 50) (.tmp 58) rfl rfl rfl HO7.out HU7.out HZ7.out.size (by rw [natsI_len, natsI_len, List.length_range]; have := restP_len (rD l) j i; omega) ?_
      intro v' z5 hown hw hv
      have HZ8 := Lib.hid (Wrote.below HZ7.out hw HZ7.out.size (fun q hq => (HO7.out.lt hq).1))
      have HO8 := Lib.hid hown
      clear hown hw hv HO7 HU7 HZ7 k0 k1
      have k0 := keep HZ8.out Hm.out.1
      have k1 := keep HZ8.out Hm.out.2
      refine hK _ _ ⟨⟨k0, k1⟩, ?_⟩
      try simp only [Act.put, List.setIfInBounds_toArray, List.set_cons_zero, List.set_cons_succ]
      try clear hK
      try clear K
      refine TailRunG.go rfl (fun K hK => ?_)
      go_wp2_with fail
      refine ⟨⟨k0, k1⟩, ?_⟩
      try clear hK
      try clear K
      refine TailRunG.done ?_
      go_wp2_with (at_builtin; go_loud (refine wpList_push eltI rfl (.tmp 60) (.tmp 63) rfl (i : Int) rfl rfl rfl HO8.out HZ8.out.size (by rw [List.length_append, natsI_len, natsI_len, List.length_range]; have := restP_len (rD l) j i; omega) ?_); intro v9 z9 hown hw hv; (have hI := OwnL.ints (show OwnL eltI z9 z2.heap.size v9 (natsI (turnP l j i)) by rw [turn_nats]; exact hown) (turnP_fit hki (by omega))); (have HZ9 := Lib.hid (Wrote.below HZ8.out hw HZ8.out.size (fun q hq => (HO8.out.lt hq).1))); clear hown hw hv; (obtain ⟨ra, rc, rfl, hI⟩ := hI); (rw [natsI_len] at hI ⊢); (have HI := Lib.hid hI); clear hI)
      refine (clipI_calls HI.out).mono ?_
      rintro e z10 ⟨rfl, rfl⟩
      have Hq : Hid (RevPost w (revRes n l (j : Int) (i : Int)) (.returned (.tuple #[.slice ra (turnP l j i).length (turnP l j i).length, .int .i64 0])) z9) := by rw [Hid, Hr.out]; exact ⟨_, _, rfl, HI.out.clip, HB4.out.trans (HZ9.out.mono HB4.out.size)⟩
      clear HI HZ9 HZ8 HO8 k0 k1
      go_wp2
      go_returns
      exact Hq.out
set_option maxRecDepth 20000 in
set_option maxHeartbeats 8000000 in
theorem rraceRev_calls {w : World} {a0 : Option Addr} {n c : Nat} {l : List Ev} (h : IsEvs w a0 n c l) (f s : Int) :
    Calls Try.prog 50 #[.slice a0 n c, .agg #[.int .i64 f, .int .i64 s]] w (RevPost w (revRes n l f s)) := by
  have hnm : n ≤ 9223372036854775807 := by have := h.le; have := h.cap; unfold maxLen at *; omega
  have Hev := Lib.hid h
  clear h
  go_enter Try.func50, Try.ntmps50
  go_wp2_with fail
  have hN := one_newR w #[.int .i64 f, .int .i64 s] 62
  revert hN
  generalize w.alloc (.cells #[.int .i64 f, .int .i64 s] 62) = w0
  rintro ⟨hA, hb1⟩
  obtain ⟨g0, hg0⟩ : ∃ g0, g0 = w.heap.size := ⟨_, rfl⟩
  rw [← hg0] at hA ⊢
  have c0 : w0.cell? ⟨g0, 0, none⟩ = some (.int .i64 f) := cell_of_block hA
  have c1 : w0.cell? ⟨g0, 1, none⟩ = some (.int .i64 s) := cell_of_block hA
  have HB0 := Lib.hid hb1
  clear hA hg0 hb1
  refine (rall_calls (Hev.out.below HB0.out)).mono ?_
  rintro e w1 ⟨v, rfl, hs, hb1⟩
  have HB1 := Lib.hid (HB0.out.trans (hb1.mono HB0.out.size))
  have c0 := keep hb1 c0
  have c1 := keep hb1 c1
  by_cases hz : wrongS n l = 0
  case neg =>
    have hz' : (wrongS n l != 0) = true := by simpa [bne] using hz
    have Hq : Hid (RevPost w (revRes n l f s) (.returned (.tuple #[.slice none 0 0, .int .i64 (wrongS n l)])) w1) := by rw [Hid, revRes_bad hz]; exact RevPost.none HB1.out
    rw [allRes_bad hz] at hs ⊢
    clear hb1 hz c0 c1 hs
    generalize wrongS n l = z at *
    go_wp2
    go_returns
    exact Hq.out
  have Hz := Lib.hid hz
  have hn100 : n ≤ 100 := wrong_le hz
  rw [allRes_good hz] at hs ⊢
  have HS := Lib.hid hs
  have hRl := allN_len l n hn100
  clear hz hs hb1
  have Hno : Hid (hasP (allN l n) f s = false → revRes n l f s = ([], 1)) := fun h => revRes_no Hz.out h
  have Hyes : Hid (hasP (allN l n) f s = true → ∃ k i : Nat, f = (k : Int) ∧ s = (i : Int) ∧ i < n ∧ k < i ∧ revRes n l (k : Int) (i : Int) = (turnP l k i, 0)) := fun h => by
    obtain ⟨k, i, rfl, rfl, h1, h2⟩ := has_yes h
    exact ⟨k, i, rfl, rfl, h1, racesAt_lt h2, revRes_yes Hz.out h⟩
  revert HS hRl Hno Hyes
  simp only
  generalize allN l n = R
  intro HS hRl Hno Hyes
  obtain ⟨ra, rc, rfl, hrc⟩ := HS.out.nats
  have hRw : R.length ≤ 9223372036854775807 := by omega
  have Hm0 : Hid (hasP (R.take 0) f s = false) := by rw [Hid, List.take_zero]; rfl
  go_wp2_with fail
  go_loopw [8, 9] (fun u x wr => ∃ m : Nat, m ≤ R.length ∧ x = .int .i64 m ∧ u = .bool (hasP (R.take m) f s) ∧ Hid (Below w1.heap.size w1 wr)) (fun _ x _ => R.length - (intOf x).toNat)
  case atStart => exact ⟨0, Nat.zero_le _, by go_num, by rw [Hm0.out], Below.refl ..⟩
  case round =>
    obtain ⟨m, hm, rfl, rfl, HB⟩ := hrel
    by_cases hmR : m < R.length
    · obtain ⟨⟨p1, p2⟩, hp⟩ : ∃ p, R[m]? = some p := ⟨_, List.getElem?_eq_getElem hmR⟩
      obtain ⟨g, rfl, e0, e1⟩ := HS.out.nat_at hp
      simp only at e0 e1
      have e0 := keep HB.out e0
      have e1 := keep HB.out e1
      have k0 := keep HB.out c0
      have k1 := keep HB.out c1
      have Hp := Lib.hid (hasP_succ hp f s)
      clear hp
      simp only at Hp
      go_wp2_with fail
      by_cases h1 : (p1 : Int) = f
      · have hb1 : ((p1 : Int) == f) = true := by simpa using h1
        by_cases h2 : (p2 : Int) = s
        · have hb2 : ((p2 : Int) == s) = true := by simpa using h2
          have Hm' : Hid (hasP (R.take (m + 1)) f s = true) := by rw [Hid, Hp.out, hb1, hb2]; simp
          clear h1 h2
          refine wp_ext_draw 6 mixed (by kernel_rfl) ?_
          simp only [List.take_succ_cons, List.take_zero, List.drop_succ_cons, List.drop_zero]
          repeat ((first | ((apply TextRun.go rfl rfl rfl); (focus (intro w1 hS K hK; have hc := bcell hS; have hs := blt hS; have e0 := keep hS e0; have e1 := keep hS e1; have k0 := keep hS k0; have k1 := keep hS k1; go_wp2_with (fail); first | done | exact hS | exact hS.trans (hb.mono hS.size)))) | (refine TextRun.skip rfl ?_) | ((refine TextRun.wantedT rfl rfl rfl ?_); (apply Exists.intro); (apply And.intro); (focus (intro w1 hS K hK; have hc := bcell hS; have hs := blt hS; have e0 := keep hS e0; have e1 := keep hS e1; have k0 := keep hS k0; have k1 := keep hS k1; go_wp2_with (fail); first | done | exact hS | exact hS.trans (hb.mono hS.size))))); (simp only [Act.put, List.setIfInBounds_toArray, List.set_cons_zero, List.set_cons_succ]))
          refine TextRun.done ?_
          intro w2 hb
          have HB2 := Lib.hid (HB.out.trans (hb.mono HB.out.size))
          clear hb e0 e1 k0 k1
          go_wp2
          go_roundw
          case rel => exact ⟨m + 1, by omega, by go_num, by rw [Hm'.out], HB2.out⟩
          case measure => simp [intOf]; omega
        · have hb2 : ((p2 : Int) == s) = false := by simpa using h2
          have Hm' : Hid (hasP (R.take (m + 1)) f s = hasP (R.take m) f s) := by rw [Hid, Hp.out, hb1, hb2]; simp
          clear h1 h2
          refine wp_ext_draw 6 mixed (by kernel_rfl) ?_
          simp only [List.take_succ_cons, List.take_zero, List.drop_succ_cons, List.drop_zero]
          repeat ((first | ((apply TextRun.go rfl rfl rfl); (focus (intro w1 hS K hK; have hc := bcell hS; have hs := blt hS; have e0 := keep hS e0; have e1 := keep hS e1; have k0 := keep hS k0; have k1 := keep hS k1; go_wp2_with (fail); first | done | exact hS | exact hS.trans (hb.mono hS.size)))) | (refine TextRun.skip rfl ?_) | ((refine TextRun.wantedT rfl rfl rfl ?_); (apply Exists.intro); (apply And.intro); (focus (intro w1 hS K hK; have hc := bcell hS; have hs := blt hS; have e0 := keep hS e0; have e1 := keep hS e1; have k0 := keep hS k0; have k1 := keep hS k1; go_wp2_with (fail); first | done | exact hS | exact hS.trans (hb.mono hS.size))))); (simp only [Act.put, List.setIfInBounds_toArray, List.set_cons_zero, List.set_cons_succ]))
          refine TextRun.done ?_
          intro w2 hb
          have HB2 := Lib.hid (HB.out.trans (hb.mono HB.out.size))
          clear hb e0 e1 k0 k1
          go_wp2
          go_roundw
          case rel => exact ⟨m + 1, by omega, by go_num, by rw [Hm'.out], HB2.out⟩
          case measure => simp [intOf]; omega
      · have hb1 : ((p1 : Int) == f) = false := by simpa using h1
        have Hm' : Hid (hasP (R.take (m + 1)) f s = hasP (R.take m) f s) := by rw [Hid, Hp.out, hb1]; simp
        clear h1
        refine wp_ext_draw 6 mixed (by kernel_rfl) ?_
        simp only [List.take_succ_cons, List.take_zero, List.drop_succ_cons, List.drop_zero]
        repeat ((first | ((apply TextRun.go rfl rfl rfl); (focus (intro w1 hS K hK; have hc := bcell hS; have hs := blt hS; have e0 := keep hS e0; have e1 := keep hS e1; have k0 := keep hS k0; have k1 := keep hS k1; go_wp2_with (fail); first | done | exact hS | exact hS.trans (hb.mono hS.size)))) | (refine TextRun.skip rfl ?_) | ((refine TextRun.wantedT rfl rfl rfl ?_); (apply Exists.intro); (apply And.intro); (focus (intro w1 hS K hK; have hc := bcell hS; have hs := blt hS; have e0 := keep hS e0; have e1 := keep hS e1; have k0 := keep hS k0; have k1 := keep hS k1; go_wp2_with (fail); first | done | exact hS | exact hS.trans (hb.mono hS.size))))); (simp only [Act.put, List.setIfInBounds_toArray, List.set_cons_zero, List.set_cons_succ]))
        refine TextRun.done ?_
        intro w2 hb
        have HB2 := Lib.hid (HB.out.trans (hb.mono HB.out.size))
        clear hb e0 e1 k0 k1
        go_wp2
        go_roundw
        case rel => exact ⟨m + 1, by omega, by go_num, by rw [Hm'.out], HB2.out⟩
        case measure => simp [intOf]; omega
    · have hmR : m = R.length := by omega
      subst hmR
      rw [List.take_length]
      have HB2 := Lib.hid (HB1.out.trans (HB.out.mono HB1.out.size))
      have c0 := keep HB.out c0
      have c1 := keep HB.out c1
      clear HB HS hrc Hm0
      cases hp : hasP R f s with
      | false =>
        have Hq : Hid (RevPost w (revRes n l f s) (.returned (.tuple #[.slice none 0 0, .int .i64 1])) wr) := by rw [Hid, Hno.out hp]; exact RevPost.none HB2.out
        clear hp
        go_wp2
        go_returns
        exact Hq.out
      | true =>
        obtain ⟨k, i, rfl, rfl, hi, hki, hr⟩ := Hyes.out hp
        have Hr := Lib.hid hr
        clear hr hp Hyes Hno
        go_wp2_with fail
        refine (rord_calls (Hev.out.below HB2.out)).mono ?_
        rintro e w3 ⟨hb1, ⟨hz, rfl⟩ | ⟨hz, v1, v2, rfl, hM1, hM2⟩⟩
        · exact absurd Hz.out hz
        obtain ⟨sa, sp, sq, rfl⟩ := hM1.slice
        obtain ⟨ta, tp, tq, rfl⟩ := hM2.slice
        have hal : Below w3.heap.size w3 (w3.alloc (.cells #[.slice a0 n c, .slice sa sp sq, .slice ta tp tq] 27)) := (Below.refl _ w3).alloc (Nat.le_refl _) _
        have hR3 : ROrdAt (w3.alloc (.cells #[.slice a0 n c, .slice sa sp sq, .slice ta tp tq] 27)) w3.heap.size a0 n c (.slice sa sp sq) (.slice ta tp tq) l :=
          ⟨(MapKept.heap_alloc w3 _).1, ⟨_, hM1.below hal⟩, ⟨_, hM2.below hal⟩, ((Hev.out.below HB2.out).below hb1).below hal⟩
        have hb3 := hb1.trans (hal.mono hb1.size)
        have HX := Lib.hid (And.intro hR3 (HB2.out.trans (hb3.mono HB2.out.size)))
        have c0 := keep hb3 c0
        have c1 := keep hb3 c1
        clear hb1 hal hR3 hM1 hM2 hz hb3
        go_wp2_with fail
        revert HX c0 c1
        generalize w3.alloc (.cells #[.slice a0 n c, .slice sa sp sq, .slice ta tp tq] 27) = z2
        intro HX c0 c1
        have HR := Lib.hid HX.out.1
        have HB4 := Lib.hid HX.out.2
        clear HX HB2
        obtain ⟨rb, hrb⟩ : ∃ rb, rb = w3.heap.size := ⟨_, rfl⟩
        rw [← hrb] at HR ⊢
        clear hrb
        have Hm := Lib.hid (And.intro c0 c1)
        clear c0 c1
        go_loopw [12, 13] (fun u x wr => ∃ j : Nat, j ≤ k ∧ x = .int .i64 j ∧ Hid (OwnL eltI wr z2.heap.size u (natsI (List.range j)) ∧ Below z2.heap.size z2 wr)) (fun _ x _ => k - (intOf x).toNat)
        case atStart => exact ⟨0, Nat.zero_le _, by go_num, OwnL.nil .., Below.refl ..⟩
        case round =>
          obtain ⟨j, hj, rfl, HL⟩ := hrel
          have k0 := keep HL.out.2 Hm.out.1
          have k1 := keep HL.out.2 Hm.out.2
          by_cases hjk : j < k
          · go_wp2_with (at_builtin; go_loud (refine wpList_push eltI rfl (.tmp 48) (.tmp 50) rfl (j : Int) rfl rfl rfl HL.out.1 HL.out.2.size (by rw [natsI_len, List.length_range]; omega) ?_); intro v' wz hown hw hv; (have HL' := Lib.hid (And.intro (show OwnL eltI wz z2.heap.size v' (natsI (List.range (j + 1))) by rw [range_nats]; exact hown) (Wrote.below HL.out.2 hw HL.out.2.size (fun q hq => (HL.out.1.lt hq).1)))); clear hown hw hv)
            go_roundw
            case rel => exact ⟨j + 1, by omega, by go_num, HL'.out⟩
            case measure => simp [intOf]; omega
          · have hjk : j = k := by omega
            subst hjk
            have HZ5 := Lib.hid HL.out.2
            have HO5 := Lib.hid HL.out.1
            clear HL
            go_wp2_with fail
            refine (rrest_calls (HR.out.below HZ5.out) hn100 (show i ≤ n by omega) hki).mono ?_
            rintro e z4 ⟨ur, rfl, hur, hb⟩
            have HZ7 := Lib.hid (HZ5.out.trans (hb.mono HZ5.out.size))
            have HO7 := Lib.hid (HO5.out.below hb)
            have HU7 := Lib.hid hur
            clear hb hur HZ5 HO5 k0 k1
            have k0 := keep HZ7.out Hm.out.1
            have k1 := keep HZ7.out Hm.out.2
            go_wp2_with (at_builtin; go_loud (first | ((refine wpList_pushs eltI rfl (.tmp 57) (.tmp 58) rfl rfl rfl HO7.out HU7.out HZ7.out.size (by rw [natsI_len, natsI_len, List.length_range]; have := restP_len (rD l) j i; omega) ?_); intro v' z5 hown hw hv; (have HZ8 := Lib.hid (Wrote.below HZ7.out hw HZ7.out.size (fun q hq => (HO7.out.lt hq).1))); (have HO8 := Lib.hid hown); clear hown hw hv HO7 HU7 k0 k1; (have k0 := keep HZ8.out Hm.out.1); (have k1 := keep HZ8.out Hm.out.2)) | ((refine wpList_push eltI rfl (.tmp 60) (.tmp 63) rfl (i : Int) rfl rfl rfl HO8.out HZ8.out.size (by rw [List.length_append, natsI_len, natsI_len, List.length_range]; have := restP_len (rD l) j i; omega) ?_); intro v9 z9 hown hw hv; (have hI := OwnL.ints (show OwnL eltI z9 z2.heap.size v9 (natsI (turnP l j i)) by rw [turn_nats]; exact hown) (turnP_fit hki (by omega))); (have HZ9 := Lib.hid (Wrote.below HZ8.out hw HZ8.out.size (fun q hq => (HO8.out.lt hq).1))); clear hown hw hv; (obtain ⟨ra, rc, rfl, hI⟩ := hI); (rw [natsI_len] at hI ⊢); (have HI := Lib.hid hI); clear hI)))
            have Hq : Hid (RevPost w (revRes n l (j : Int) (i : Int)) (.returned (.tuple #[.slice ra (turnP l j i).length rc, .int .i64 0])) z9) := by rw [Hid, Hr.out]; exact ⟨_, _, rfl, HI.out, HB4.out.trans (HZ9.out.mono HB4.out.size)⟩
            clear HI HZ9 HZ8 HO8 k0 k1
            go_returns
            exact Hq.out

set_option maxRecDepth 100000 in
theorem open_pair {H : Type} {enc : TypeId × Value → H} {w : World} {r : Reach} {b0 : Nat} {v : Value} {d : DataW H} {p : List MemPlace} (hv : Value.okWide Try.prog w r b0 62 v) (h : DataW.Trod enc Try.prog w 0 (fun _ => true) true 62 v d p) :
    ∃ x y : Int, v = .agg #[.int .i64 x, .int .i64 y] := by
  obtain ⟨zs, rfl, hl, hw⟩ := open_flat Try.underlying62 (by kernel_rfl) (by kernel_rfl) hv h
  match zs, hl with
  | [k, o], _ => exact ⟨k, o, rfl⟩
theorem revRes_len (n : Nat) (l : List Ev) (f s : Int) : (revRes n l f s).1.length ≤ 1000000 := by
  unfold revRes
  split
  · exact Nat.zero_le _
  · rename_i hz
    have hz : wrongS n l = 0 := by simpa using hz
    have hn := wrong_le hz
    split
    · rename_i hh
      obtain ⟨k, i, rfl, rfl, h1, h2⟩ := has_yes hh
      have h3 := turnP_len_le (l := l) (racesAt_lt h2)
      show (turnP l k i).length ≤ _
      omega
    · exact Nat.zero_le _
set_option maxRecDepth 20000 in
set_option maxHeartbeats 4000000 in
theorem raceReverse_law {w : World} {a0 : Option Addr} {n c : Nat} {l : List Ev} (h : IsEvs w a0 n c l) (f s : Int) :
    Calls Try.prog 14 #[.slice a0 n c, .agg #[.int .i64 f, .int .i64 s]] w fun e w' => e = .returned (.bool true) ∧ Below w.heap.size w w' := by
  have Hev := Lib.hid h
  clear h
  go_enter Try.func14, Try.ntmps14
  go_wp2_with fail
  have hN := one_newR w #[.int .i64 f, .int .i64 s] 62
  revert hN
  generalize w.alloc (.cells #[.int .i64 f, .int .i64 s] 62) = w0
  rintro ⟨hA, hb1⟩
  obtain ⟨g0, hg0⟩ : ∃ g0, g0 = w.heap.size := ⟨_, rfl⟩
  rw [← hg0] at hA ⊢
  have c0 : w0.cell? ⟨g0, 0, none⟩ = some (.int .i64 f) := cell_of_block hA
  have c1 : w0.cell? ⟨g0, 1, none⟩ = some (.int .i64 s) := cell_of_block hA
  have HB0 := Lib.hid hb1
  clear hA hg0 hb1
  refine (rawake_calls _).mono ?_
  rintro e w1 ⟨rfl, hb⟩
  have HB1 := Lib.hid (HB0.out.trans (hb.mono HB0.out.size))
  have c0 := keep hb c0
  have c1 := keep hb c1
  clear hb
  go_wp2_with fail
  refine (raceRev_calls (Hev.out.below HB1.out) f s).mono ?_
  rintro e w2 ⟨a1, c1', rfl, hI, hb⟩
  have HI2 := Lib.hid hI
  have HB2 := Lib.hid (HB1.out.trans (hb.mono HB1.out.size))
  have c0 := keep hb c0
  have c1 := keep hb c1
  clear hI hb
  go_wp2_with fail
  refine (rraceRev_calls (Hev.out.below HB2.out) f s).mono ?_
  rintro e w3 ⟨a2, c2', rfl, hI, hb⟩
  have HI2 := Lib.hid (HI2.out.below hb)
  have HI3 := Lib.hid hI
  have HB3 := Lib.hid (HB2.out.trans (hb.mono HB2.out.size))
  clear hI hb c0 c1
  revert HI2 HI3
  generalize revRes n l f s = r
  obtain ⟨xs, z⟩ := r
  intro HI2 HI3
  simp only at HI2 HI3
  go_wp2_with fail
  refine (equal_calls HI2.out HI3.out).mono ?_
  rintro e w4 ⟨rfl, hb⟩
  have HB4 := Lib.hid (HB3.out.trans (hb.mono HB3.out.size))
  clear hb
  have hxx : decide (natsI xs = natsI xs) = true := by simp
  have hzz : (z == z) = true := by simp
  rw [hxx]
  clear hxx
  go_wp2
  go_ret
  exact ⟨rfl, HB4.out⟩
end Go.Proofs.Ythooddkoldfebaa
