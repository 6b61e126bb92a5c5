/-
  Fronts: plain law; the walks of first, of front and of SourceFronts.
-/
import Derived.Test.YtjhlehepnhbbaaaNeedsA
import Derived.Test.YtjhlehepnhbbaaaRaceC
import Derived.Test.YtjhlehepnhbbaaaCpEvs
import Derived.Test.YtjhlehepnhbbaaaSets2
set_option linter.unusedSimpArgs false
set_option linter.unusedVariables false
namespace Go.Proofs.Ytjhlehepnhbbaaa
open Go Go.RowKit

theorem Tr.pre (A : List Ev) {l m : List Ev} (h : Tr l m) : Tr (A ++ l) (A ++ m) := by
  induction A with
  | nil => exact h
  | cons a A ih => exact ih.cons a
theorem in8_iff {t : Int} : in8 t = true ↔ 0 ≤ t ∧ t < 8 := by unfold in8; simp
theorem oneN_bit {t : Int} (h : in8 t = true) (j : Nat) : (oneN t).testBit j = decide (t.toNat = j) := by
  unfold oneN; rw [if_pos h, Nat.testBit_two_pow]
/-- What the two sets of Initials say. -/
structure InitAt (X : List Ev) (K : Nat) : Prop where
  met : ∀ t : Nat, (initS X K).1.testBit t = true ↔ t < 8 ∧ ∃ u, u < K ∧ thE X u = (t : Int)
  out : ∀ t : Nat, (initS X K).2.testBit t = true → t < 8 ∧ ∃ u, u < K ∧ thE X u = (t : Int) ∧ FreeAt X u ∧ ∀ v, v < u → thE X v ≠ (t : Int)
theorem anyDep_no {X : List Ev} {K : Nat} {e : Ev} (he : X[K]? = some e) (h : anyDep X K e = false) : FreeAt X K := by
  have hl := (List.getElem?_eq_some_iff.1 he).1
  refine ⟨hl, fun k hk => ?_⟩
  unfold anyDep at h
  rw [List.any_eq_false] at h
  have hm : X.getD k ev00 ∈ X.take K := by
    have h1 : (X.take K)[k]? = some (X.getD k ev00) := by rw [List.getElem?_take_of_lt hk]; exact getD_at (by omega)
    exact List.mem_of_getElem? h1
  have := h _ hm
  rw [getD_of he]
  show dependsB _ _ _ _ _ _ = false
  simpa using this
theorem initAt (X : List Ev) : ∀ K, K ≤ X.length → InitAt X K
  | 0, _ => ⟨fun t => by
      rw [initS]
      constructor
      · intro h; simp at h
      · rintro ⟨_, u, hu, _⟩; omega, fun t h => by rw [initS] at h; simp at h⟩
  | K + 1, hK => by
    have ih := initAt X K (by omega)
    obtain ⟨e, he⟩ : ∃ e, X[K]? = some e := ⟨_, List.getElem?_eq_getElem (by omega)⟩
    have hth : thE X K = e.t := thE_of he
    rw [show InitAt X (K + 1) ↔ _ from Iff.rfl]
    cases hi : in8 e.t
    · have e1 : initS X (K + 1) = initS X K := by rw [initS_succ he, step_same (.inl hi)]
      refine ⟨fun t => ?_, fun t h => ?_⟩
      · rw [e1, ih.met]
        constructor
        · rintro ⟨h1, u, h2, h3⟩; exact ⟨h1, u, by omega, h3⟩
        · rintro ⟨h1, u, h2, h3⟩
          refine ⟨h1, u, ?_, h3⟩
          by_cases hu : u = K
          · subst hu
            rw [hth] at h3
            rw [h3, in8_iff.2 ⟨by omega, by omega⟩] at hi
            cases hi
          · omega
      · rw [e1] at h
        obtain ⟨h1, u, h2, h3⟩ := ih.out t h
        exact ⟨h1, u, by omega, h3⟩
    · have h8 := in8_iff.1 hi
      cases hm : hasB (initS X K).1 e.t
      · have hnew : ∀ u, u < K → thE X u ≠ e.t := fun u hu h => by
          have h1 := (ih.met e.t.toNat).2 ⟨by omega, u, hu, by omega⟩
          unfold hasB at hm
          rw [hi, h1] at hm
          simp at hm
        have e1 : initS X (K + 1) = ((initS X K).1 ||| oneN e.t, if anyDep X K e then (initS X K).2 else (initS X K).2 ||| oneN e.t) := by rw [initS_succ he, step_new hi hm]
        refine ⟨fun t => ?_, fun t h => ?_⟩
        · rw [e1]
          simp only
          rw [Nat.testBit_or, Bool.or_eq_true, ih.met, oneN_bit hi, decide_eq_true_iff]
          constructor
          · rintro (⟨h1, u, h2, h3⟩ | h)
            · exact ⟨h1, u, by omega, h3⟩
            · exact ⟨by omega, K, by omega, by rw [hth]; omega⟩
          · rintro ⟨h1, u, h2, h3⟩
            by_cases hu : u = K
            · subst hu
              rw [hth] at h3
              exact .inr (by omega)
            · exact .inl ⟨h1, u, by omega, h3⟩
        · rw [e1] at h
          simp only at h
          have hold : (initS X K).2.testBit t = true → t < 8 ∧ ∃ u, u < K + 1 ∧ thE X u = (t : Int) ∧ FreeAt X u ∧ ∀ v, v < u → thE X v ≠ (t : Int) := fun h => by
            obtain ⟨h1, u, h2, h3⟩ := ih.out t h
            exact ⟨h1, u, by omega, h3⟩
          cases hd : anyDep X K e
          · rw [hd, if_neg (by simp), Nat.testBit_or, Bool.or_eq_true, oneN_bit hi, decide_eq_true_iff] at h
            rcases h with h | h
            · exact hold h
            · exact ⟨by omega, K, by omega, by rw [hth]; omega, anyDep_no he hd, fun v hv hq => hnew v hv (by omega)⟩
          · rw [hd, if_pos rfl] at h
            exact hold h
      · have e1 : initS X (K + 1) = initS X K := by rw [initS_succ he, step_same (.inr hm)]
        refine ⟨fun t => ?_, fun t h => ?_⟩
        · rw [e1, ih.met]
          constructor
          · rintro ⟨h1, u, h2, h3⟩; exact ⟨h1, u, by omega, h3⟩
          · rintro ⟨h1, u, h2, h3⟩
            refine ⟨h1, ?_⟩
            by_cases hu : u = K
            · subst hu
              rw [hth] at h3
              unfold hasB at hm
              rw [Bool.and_eq_true] at hm
              obtain ⟨_, v, hv, hvt⟩ := (ih.met _).1 hm.2
              exact ⟨v, hv, by omega⟩
            · exact ⟨u, by omega, h3⟩
        · rw [e1] at h
          obtain ⟨h1, u, h2, h3⟩ := ih.out t h
          exact ⟨h1, u, by omega, h3⟩
/-- What can come behind events that it does not depend on can come ahead of them. -/
theorem can_back : ∀ {Z : List Ev} {S : LogS} {x : Ev}, okL S Z → (∀ e ∈ Z, depE e x = false) → canB (takes S Z) x.t x.k x.o = canB S x.t x.k x.o
  | [], S, x, _, _ => rfl
  | e :: Z, S, x, h, hd => by
    have h1 : Go.Proofs.Ytjhlehepnhbbaaa.addE S e = 0 := h.1
    have ih := can_back (Z := Z) (S := addS S e) (x := x) h.2 (fun a ha => hd a (List.mem_cons_of_mem _ ha))
    have h2 := leaves_plain h1 (w := x) (hd e (List.mem_cons_self ..))
    rw [← h2, ← ih]; rfl
/-- The suffix behind a race's first event. -/
noncomputable def sufP (l : List Ev) (k : Nat) : List Nat := restP (rD l) k (l.length - 1) ++ [l.length - 1]
theorem needX_suf (l : List Ev) (k : Nat) : needX l (l.getD (l.length - 1) ev00) (l.length - 1) k = evsAt l (sufP l k) := by
  unfold needX sufP
  rw [evsAt_app]; rfl
/-- The set that is told at k. -/
noncomputable def frS (l : List Ev) (k : Nat) : Nat := ndF l.length l k
structure FrontAt (l : List Ev) (k : Nat) : Prop where
  lt : k < l.length - 1
  race : k ∈ racesAt l (l.length - 1)
  own : 0 ≤ thE l k → (frS l k).testBit (thE l k).toNat = false
  has : ∀ t : Nat, (frS l k).testBit t = true → t < 8 ∧ ∃ u, u < (sufP l k).length ∧ thE (evsAt l (sufP l k)) u = (t : Int) ∧ FreeAt (evsAt l (sufP l k)) u ∧ ∀ v, v < u → thE (evsAt l (sufP l k)) v ≠ (t : Int)
theorem sufP_th {l : List Ev} {k : Nat} (hr : k ∈ racesAt l (l.length - 1)) : ∀ u, u < (sufP l k).length → thE (evsAt l (sufP l k)) u ≠ thE l k := by
  intro u hu
  have hc := cand_of hr
  obtain ⟨q, hq⟩ : ∃ q, (sufP l k)[u]? = some q := ⟨_, List.getElem?_eq_getElem hu⟩
  have e : thE (evsAt l (sufP l k)) u = thE l q := by unfold thE; rw [evsAt_getD hq]
  rw [e]
  have hm := List.mem_of_getElem? hq
  unfold sufP at hm
  rcases List.mem_append.1 hm with hm | hm
  · obtain ⟨_, h2, h3⟩ := restP_mem.1 hm
    intro he
    have := HB.one (r := rD l) h2 (show rD l k q = true from depE_same (a := l.getD k ev00) (b := l.getD q ev00) he.symm)
    rw [hbB_iff.2 this] at h3; cases h3
  · rw [List.mem_singleton.1 hm]
    exact fun he => hc.2.1 he.symm
theorem frontAt {l : List Ev} {k : Nat} (h : frS l k ≠ 0) : FrontAt l k := by
  unfold frS ndF needF at h
  by_cases hr : k ∈ racesAt l (l.length - 1)
  · have e : frS l k = (initS (evsAt l (sufP l k)) (evsAt l (sufP l k)).length).2 := by
      unfold frS ndF needF needN
      rw [if_pos hr, needX_suf]
    have hI := initAt (evsAt l (sufP l k)) _ (Nat.le_refl _)
    have hlen : (evsAt l (sufP l k)).length = (sufP l k).length := evsAt_len _ _
    refine ⟨(cand_of hr).1, hr, fun h0 => ?_, fun t ht => ?_⟩
    · rw [e]
      cases hb : (initS (evsAt l (sufP l k)) (evsAt l (sufP l k)).length).2.testBit (thE l k).toNat
      · rfl
      · obtain ⟨_, u, h1, h2, _⟩ := hI.out _ hb
        exact absurd (show thE (evsAt l (sufP l k)) u = thE l k by omega) (sufP_th hr u (by omega))
    · rw [e] at ht
      obtain ⟨h1, u, h2, h3⟩ := hI.out t ht
      exact ⟨h1, u, by omega, h3⟩
  · rw [if_neg hr] at h; exact absurd rfl h
/-- The events of the suffix but the last. -/
noncomputable def sufZ (l : List Ev) (k : Nat) : List Ev := evsAt l (restP (rD l) k (l.length - 1))
theorem sufP_len (l : List Ev) (k : Nat) : (sufP l k).length = (sufZ l k).length + 1 := by unfold sufP sufZ; rw [List.length_append, evsAt_len]; rfl
theorem sufP_evs (l : List Ev) (k : Nat) : evsAt l (sufP l k) = sufZ l k ++ [l.getD (l.length - 1) ev00] := by unfold sufP sufZ; rw [evsAt_app]; rfl
theorem suf_getD {l : List Ev} {k u : Nat} (h : u < (sufZ l k).length) : (evsAt l (sufP l k)).getD u ev00 = (sufZ l k).getD u ev00 := by
  rw [sufP_evs, List.getD_eq_getElem?_getD, List.getElem?_append_left h, ← List.getD_eq_getElem?_getD]
theorem suf_free {l : List Ev} {k u : Nat} (h : u < (sufZ l k).length) (hf : FreeAt (evsAt l (sufP l k)) u) : FreeAt (sufZ l k) u :=
  ⟨h, fun v hv => by have := hf.2 v hv; rwa [suf_getD h, suf_getD (by omega)] at this⟩
/-- The last one can come at once. -/
theorem front_last {l : List Ev} {k : Nat} {S : LogS} (hR : ofS l = (S, 0, 0)) (h : FrontAt l k) (hf : FreeAt (evsAt l (sufP l k)) (sufZ l k).length) :
    canB (takes log0 (l.take k)) (l.getD (l.length - 1) ev00).t (l.getD (l.length - 1) ev00).k (l.getD (l.length - 1) ev00).o = true := by
  have hc := (cand_of h.race).2.2
  rw [takes_apps] at hc
  have hlt := h.lt
  have hok : okL log0 (l.take k ++ evsAt l (restP (rD l) k (l.length - 1))) := rest_ok (okL_of hR) h.lt (by omega)
  rw [← hc]
  refine (can_back (okL_app.1 hok).2 fun e he => ?_).symm
  have he' : e ∈ sufZ l k := he
  obtain ⟨u, hu, rfl⟩ := List.getElem_of_mem he'
  have := hf.2 u hu
  rw [suf_getD hu, sufP_evs] at this
  have e1 : (sufZ l k ++ [l.getD (l.length - 1) ev00]).getD (sufZ l k).length ev00 = l.getD (l.length - 1) ev00 := by
    rw [List.getD_eq_getElem?_getD, List.getElem?_append_right (Nat.le_refl _), Nat.sub_self]; rfl
  rw [e1, List.getD_eq_getElem?_getD, List.getElem?_eq_getElem hu] at this
  exact this
noncomputable def frX (l : List Ev) (k : Nat) : List Ev := l.take k ++ sufZ l k
noncomputable def frY (l : List Ev) (k u : Nat) : List Ev := l.take k ++ (sufZ l k).getD u ev00 :: (sufZ l k).eraseIdx u
theorem front_tr {l : List Ev} {k u : Nat} (hu : u < (sufZ l k).length) (hf : FreeAt (evsAt l (sufP l k)) u) : Tr (frX l k) (frY l k u) := Tr.pre _ (free_front (suf_free hu hf))
theorem frX_len {l : List Ev} {k : Nat} (hk : k ≤ l.length - 1) : (frX l k).length = k + (sufZ l k).length := by
  unfold frX; rw [List.length_append, List.length_take]; omega
theorem restP_gap (r : Nat → Nat → Bool) (k : Nat) : ∀ d, (restP r k (k + 1 + d)).length ≤ d
  | 0 => by rw [Nat.add_zero, restP_start]; exact Nat.le_refl _
  | d + 1 => by
    have := restP_gap r k d
    rw [← Nat.add_assoc, restP_succ (by omega), List.length_append]
    split <;> simp <;> omega
theorem sufZ_le {l : List Ev} {k : Nat} (hk : k < l.length - 1) : k + (sufZ l k).length ≤ l.length := by
  unfold sufZ
  rw [evsAt_len]
  have := restP_gap (rD l) k (l.length - 1 - (k + 1))
  rw [show k + 1 + (l.length - 1 - (k + 1)) = l.length - 1 by omega] at this
  omega
theorem frX_ok {l : List Ev} {k : Nat} {S : LogS} (hR : ofS l = (S, 0, 0)) (hk : k < l.length - 1) : okL log0 (frX l k) := rest_ok (okL_of hR) hk (by omega)
end Go.Proofs.Ytjhlehepnhbbaaa

namespace Go.Proofs.Ytjhlehepnhbbaaa
open Go.ChangeShapes Go.WideShapes Go.ChangeAt Go.RowKit Go.Deep

set_option maxRecDepth 20000 in
set_option maxHeartbeats 4000000 in
theorem ffirst_calls {w : World} {a0 pa : Option Addr} {n c pc : Nat} {l : List Ev} {R : List Nat} (h : IsEvs w a0 n c l) (hp : AtR w pa R) (hRn : ∀ q ∈ R, q < n) (hRl : R.length ≤ 200) {u : Nat} {t : Int} (hu : u < R.length) (ht : thE (evsAt l R) u = t) (hne : ∀ v, v < u → thE (evsAt l R) v ≠ t) :
    Calls Try.prog 42 #[.slice a0 n c, .slice pa R.length pc, .int .i64 t] w fun e w' => e = .returned (.int .i64 (u : Int)) ∧ Below w.heap.size w w' := by
  have Hev := Lib.hid h
  have HP := Lib.hid hp
  have HRn := Lib.hid hRn
  have Ht := Lib.hid ht
  have Hne := Lib.hid hne
  clear h hp hRn ht hne
  go_enter Try.func42, Try.ntmps42
  go_wp2_with fail
  go_loopw [7] (fun x wr => ∃ v : Nat, v ≤ u ∧ x = .int .i64 v ∧ Hid (Below w.heap.size w wr)) (fun x _ => u + 1 - (intOf x).toNat)
  case atStart => exact ⟨0, Nat.zero_le _, by go_num, Below.refl ..⟩
  case round =>
    obtain ⟨v, hv, rfl, HB⟩ := hrel
    have hvR : v < R.length := by omega
    obtain ⟨q, hq⟩ : ∃ q, R[v]? = some q := ⟨_, List.getElem?_eq_getElem hvR⟩
    have hqn := HRn.out q (List.mem_of_getElem? hq)
    obtain ⟨pg, rfl, cq⟩ := (HP.out.below HB.out) v q hq
    obtain ⟨b0, off, y, rfl, hy, _, c0, _, _, _, _⟩ := (Hev.out.below HB.out).at hqn
    have hth : thE (evsAt l R) v = y.t := by unfold thE; rw [evsAt_getD hq, getD_of hy]
    obtain ⟨yt, yk, yo, yv, yb⟩ := y
    simp only at c0 hth
    clear hq hy
    by_cases hvu : v = u
    · have hyt : yt = t := by rw [← hth, hvu]; exact Ht.out
      subst hyt hvu
      clear hth
      go_wp2
      go_ret
      exact ⟨rfl, HB.out⟩
    · have hlt : v < u := by omega
      have hnb : (yt == t) = false := by
        have := Hne.out v hlt
        rw [hth] at this
        simpa using this
      clear hth hvu
      go_wp2
      go_roundw
      case rel => exact ⟨v + 1, hlt, by go_num, HB⟩
      case measure => exact meas (by omega)

theorem mem_swapF {l : List Ev} {i : Nat} (h : i + 1 < l.length) (hw : ∀ e ∈ l, e.wf) : ∀ e ∈ swapAt l i (l.getD i ev00) (l.getD (i + 1) ev00), e.wf := fun e he => by
  unfold swapAt at he
  have g : ∀ u, u < l.length → (l.getD u ev00).wf := fun u hu => hw _ (by rw [List.getD_eq_getElem?_getD, List.getElem?_eq_getElem hu]; exact List.getElem_mem hu)
  rcases List.mem_or_eq_of_mem_set he with he | rfl
  · rcases List.mem_or_eq_of_mem_set he with he | rfl
    · exact hw e he
    · exact g _ h
  · exact g _ (by omega)
theorem Ex.wfF {l m : List Ev} {i : Nat} (h : Ex l m i) (hw : ∀ e ∈ l, e.wf) : ∀ e ∈ m, e.wf := by rw [h.eq]; exact mem_swapF h.lt hw
theorem Tr.wfF {l m : List Ev} (h : Tr l m) (hw : ∀ e ∈ l, e.wf) : ∀ e ∈ m, e.wf := by
  induction h with
  | refl => exact hw
  | step _ he ih => exact he.wfF ih
/-- Two lists of events of one's own, in two blocks. -/
structure TwoE (w : World) (A B : Nat) (x y : Value) (X Y : List Ev) (wr : World) : Prop where
  ox : OwnL eltEv wr A x X
  oy : OwnL eltEv wr B y Y
  ne : ∀ q, x.ownBlock = some q → y.ownBlock = some q → False
  below : Below A w wr
  le : A ≤ B
  sz : B ≤ wr.heap.size
section
variable {w : World} {A B : Nat} {x y x' y' : Value} {X Y X' Y' : List Ev} {wr wy : World}
theorem TwoE.szA (h : TwoE w A B x y X Y wr) : A ≤ wr.heap.size := Nat.le_trans h.le h.sz
theorem TwoE.pushX (h : TwoE w A B x y X Y wr) (ho : OwnL eltEv wy A x' X') (hw : Wrote (fun q => x.ownBlock = some q) wr wy) (hv : ∀ q, x'.ownBlock = some q → x.ownBlock = some q ∨ wr.heap.size ≤ q) : TwoE w A B x' y X' Y wy :=
  ⟨ho, h.oy.wrote hw (fun q hq e => h.ne q e hq), fun q h1 h2 => by
    rcases hv q h1 with h3 | h3
    · exact h.ne q h3 h2
    · have := (h.oy.lt h2).2; omega, Wrote.below h.below hw h.szA (fun q hq => (h.ox.lt hq).1), h.le, Nat.le_trans h.sz hw.size⟩
theorem TwoE.pushY (h : TwoE w A B x y X Y wr) (ho : OwnL eltEv wy B y' Y') (hw : Wrote (fun q => y.ownBlock = some q) wr wy) (hv : ∀ q, y'.ownBlock = some q → y.ownBlock = some q ∨ wr.heap.size ≤ q) : TwoE w A B x y' X Y' wy :=
  ⟨h.ox.wrote hw (fun q hq e => h.ne q hq e), ho, fun q h1 h2 => by
    rcases hv q h2 with h3 | h3
    · exact h.ne q h1 h3
    · have := (h.ox.lt h1).2; omega, Wrote.below h.below hw h.szA (fun q hq => Nat.le_trans h.le (h.oy.lt hq).1), h.le, Nat.le_trans h.sz hw.size⟩
end
theorem wrong_okL {n : Nat} {l : List Ev} (hn : n ≤ 100) (h : okL log0 l) : wrongS n l = 0 := by
  unfold wrongS
  rw [if_neg (by omega), ofS_okL h]
theorem sufP_at {l : List Ev} {k i : Nat} (h : i < (sufZ l k).length) : ∃ q, (sufP l k)[i]? = some q ∧ q < l.length - 1 ∧ l.getD q ev00 = (sufZ l k).getD i ev00 := by
  have h1 : i < (restP (rD l) k (l.length - 1)).length := by unfold sufZ at h; rw [evsAt_len] at h; exact h
  obtain ⟨q, hq⟩ : ∃ q, (restP (rD l) k (l.length - 1))[i]? = some q := ⟨_, List.getElem?_eq_getElem h1⟩
  refine ⟨q, by unfold sufP; rw [List.getElem?_append_left h1]; exact hq, (restP_mem.1 (List.mem_of_getElem? hq)).1, ?_⟩
  unfold sufZ; rw [evsAt_getD hq]
theorem sufP_last (l : List Ev) (k : Nat) : (sufP l k)[(sufZ l k).length]? = some (l.length - 1) := by
  have h1 : (sufZ l k).length = (restP (rD l) k (l.length - 1)).length := by unfold sufZ; rw [evsAt_len]
  unfold sufP; rw [h1, List.getElem?_append_right (Nat.le_refl _), Nat.sub_self]; rfl
theorem sufP_lt {l : List Ev} {k q : Nat} (hl : 0 < l.length) (h : q ∈ sufP l k) : q < l.length := by
  unfold sufP at h
  rcases List.mem_append.1 h with h | h
  · have := (restP_mem.1 h).1; omega
  · rw [List.mem_singleton.1 h]; omega
/-- What is laid behind the one brought ahead. -/
theorem erase_step {Z : List Ev} {u i : Nat} (hi : i < Z.length) (hu : u < Z.length) : (Z.take (i + 1)).eraseIdx u = if i = u then (Z.take i).eraseIdx u else (Z.take i).eraseIdx u ++ [Z.getD i ev00] := by
  have ht : Z.take (i + 1) = Z.take i ++ [Z.getD i ev00] := by
    rw [List.take_add_one, List.getElem?_eq_getElem hi]
    simp [List.getD_eq_getElem?_getD, List.getElem?_eq_getElem hi]
  have hl : (Z.take i).length = i := by rw [List.length_take]; omega
  by_cases h1 : i = u
  · subst h1
    rw [if_pos rfl, ht, List.eraseIdx_append_of_length_le (by omega), hl, Nat.sub_self, List.eraseIdx_of_length_le (l := Z.take i) (by omega)]
    simp
  · rw [if_neg h1, ht]
    by_cases h2 : u < i
    · rw [List.eraseIdx_append_of_lt_length (by omega)]
    · rw [List.eraseIdx_of_length_le (by rw [List.length_append, hl]; simp; omega), List.eraseIdx_of_length_le (by omega)]

set_option maxRecDepth 20000 in
set_option maxHeartbeats 16000000 in
theorem front_calls {w : World} {a0 pa : Option Addr} {n c pc k u : Nat} {l : List Ev} {S : LogS} (h : IsEvs w a0 n c l) (hn : n ≤ 100) (hR : ofS l = (S, 0, 0)) (F : FrontAt l k) (hp : AtR w pa (sufP l k)) (hu : u < (sufP l k).length) (hf : FreeAt (evsAt l (sufP l k)) u) :
    Calls Try.prog 43 #[.slice a0 n c, .int .i64 (k : Int), .slice pa (sufP l k).length pc, .int .i64 (u : Int)] w fun e w' => e = .returned (.bool true) ∧ Below w.heap.size w w' := by
  have hl := h.len
  have hkn : k < n := by have := F.lt; omega
  obtain ⟨b, off, x0, rfl, _⟩ := h.at hkn
  have HT := Lib.hid (evs_take h (Nat.le_of_lt hkn))
  have Hev := Lib.hid h
  have HP := Lib.hid hp
  have HF := Lib.hid F
  have HR := Lib.hid hR
  have Hl := Lib.hid hl
  have hk63 : k ≤ 9223372036854775807 := by omega
  have hcc : n ≤ c ∧ c ≤ 9223372036854775807 := by have := h.le; have := h.cap; unfold maxLen at *; omega
  obtain ⟨hnc, hc63⟩ := hcc
  have hkc : k ≤ c := by omega
  have hsl := sufP_len l k
  rw [hsl] at hu ⊢
  have Hla := Lib.hid (sufP_last l k)
  have hz := sufZ_le F.lt
  rw [hl] at hz
  obtain ⟨z, hzz⟩ : ∃ z, z = (sufZ l k).length := ⟨_, rfl⟩
  rw [← hzz] at hu hz Hla ⊢
  have Hzz := Lib.hid hzz
  have Hf := Lib.hid hf
  clear h hp F hR hl hsl hzz hf
  go_enter Try.func43, Try.ntmps43
  by_cases huz : u = z
  · subst huz
    go_wp2_with fail
    refine (lof_ok HT.out (by omega) (ofS_take HR.out k)).mono ?_
    rintro e w2 ⟨lb, vl, va, rfl, hL, hb⟩
    have HL := Lib.hid hL
    have HB2 := Lib.hid hb
    obtain ⟨pg, rfl, cq⟩ := (HP.out.below hb) u (l.length - 1) Hla.out
    have hn1 : n - 1 < n := by omega
    obtain ⟨b1, off1, y, he, hy, _, c0, c1, c2, c3, c4⟩ := (Hev.out.below hb).at hn1
    cases he
    have Hcan : Hid (canB (takes log0 (l.take k)) y.t y.k y.o = true) := by
      have := front_last HR.out HF.out (by rw [← Hzz.out]; exact Hf.out)
      rw [Hl.out, getD_of hy] at this
      exact this
    rw [Hl.out] at cq
    obtain ⟨yt, yk, yo, yv, yb⟩ := y
    simp only at c0 c1 c2 c3 c4 Hcan
    obtain ⟨N1, hN1⟩ : ∃ N1, N1 = n - 1 := ⟨_, rfl⟩
    rw [← hN1] at cq c0 c1 c2 c3 c4 hn1
    clear hb hL hy hN1
    go_upto_region 7 with (fail)
    have hN := one_newR w2 #[.int .i64 yt, .int .i64 yk, .int .i64 yo, .int .i64 yv, .int .i64 yb] 36
    have HL3 := Lib.hid (HL.out.below hN.2)
    have HB3 := Lib.hid (HB2.out.trans (hN.2.mono HB2.out.size))
    clear c0 c1 c2 c3 c4 cq
    revert hN HL3 HB3
    generalize w2.alloc (.cells #[.int .i64 yt, .int .i64 yk, .int .i64 yo, .int .i64 yv, .int .i64 yb] 36) = w3
    intro hN HL3 HB3
    obtain ⟨g1, hg1⟩ : ∃ g, g = w2.heap.size := ⟨_, rfl⟩
    rw [← hg1] at hN ⊢
    have t0 : w3.cell? ⟨g1, 0, none⟩ = some (.int .i64 yt) := cell_of_block hN.1
    have t1 : w3.cell? ⟨g1, 1, none⟩ = some (.int .i64 yk) := cell_of_block hN.1
    have t2 : w3.cell? ⟨g1, 2, none⟩ = some (.int .i64 yo) := cell_of_block hN.1
    clear hN hg1 HL
    go_wp2_with fail
    refine (can_calls HL3.out yt yk yo).mono ?_
    rintro e w4 ⟨rfl, hb⟩
    have HB4 := Lib.hid (HB3.out.trans (hb.mono HB3.out.size))
    clear hb t0 t1 t2
    rw [Hcan.out]
    go_wp2
    go_ret
    exact ⟨rfl, HB4.out⟩
  · have huz : u < z := by omega
    have hmade : ∀ W : World, (W.alloc (.cells #[] 36)).ownsRow W.heap.size 36 5 (.slice (some ⟨W.heap.size, 0, none⟩) 0 0) 0 [] := fun W => World.ownsRow_made W #[] 0 (Nat.le_refl _) (Nat.zero_le _) rfl
    have Hmade := Lib.hid hmade
    have hal : ∀ W : World, Below W.heap.size W (W.alloc (.cells #[] 36)) := fun W => (Below.refl _ W).alloc (Nat.le_refl _) _
    have HAl := Lib.hid hal
    clear hmade hal
    have HT1 := Lib.hid (HT.out.below (HAl.out w))
    go_wp2_with (at_builtin; go_loud (refine wpList_cpEvs HT1.out rfl (.tmp 51) (.tmp 54) rfl w.heap.size rfl (Hmade.out w) rfl (by omega) (by simp) ?_))
    intro vx w1 hown hw
    have hb1 : Below w.heap.size w w1 := Wrote.below (HAl.out w) hw (by simp) (fun q hq => Nat.le_of_eq (by simpa [Value.ownBlock] using hq))
    have HX1 := Lib.hid hown
    have HB1 := Lib.hid hb1
    have HT2 := Lib.hid ((HT.out.below hb1).below (HAl.out w1))
    clear hown hw hb1 HT1
    go_wp2_with (at_builtin; go_loud (refine wpList_cpEvs HT2.out rfl (.tmp 56) (.tmp 59) rfl w1.heap.size rfl (Hmade.out w1) rfl (by omega) (by simp) ?_))
    intro vy w2 hown hw
    have hb2 : Below w1.heap.size w1 w2 := Wrote.below (HAl.out w1) hw (by simp) (fun q hq => Nat.le_of_eq (by simpa [Value.ownBlock] using hq))
    have H2 : Hid (TwoE w w.heap.size w1.heap.size vx vy (l.take k) (l.take k) w2) :=
      ⟨HX1.out.below hb2, hown, fun q h1 h2 => by have := (HX1.out.lt h1).2; have := (hown.lt h2).1; omega, HB1.out.trans (hb2.mono HB1.out.size), HB1.out.size, hb2.size⟩
    clear hown hw hb2 HT2 HX1 HB1
    revert H2
    generalize w1.heap.size = B
    intro H2
    have HAt : Hid (∀ (W : World) (j : Nat), Below w.heap.size w W → j < z → ∃ pg q y, pa = some ⟨pg, 0, none⟩ ∧ (sufZ l k).getD j ev00 = y ∧ q < n ∧ W.cell? ⟨pg, j, none⟩ = some (.int .i64 (q : Int)) ∧ W.cell? ⟨b, off + q * 5, none⟩ = some (.int .i64 y.t) ∧ W.cell? ⟨b, off + q * 5 + 1, none⟩ = some (.int .i64 y.k) ∧ W.cell? ⟨b, off + q * 5 + 2, none⟩ = some (.int .i64 y.o) ∧ W.cell? ⟨b, off + q * 5 + 3, none⟩ = some (.int .i64 y.v) ∧ W.cell? ⟨b, off + q * 5 + 4, none⟩ = some (.int .i64 y.b)) := fun W j hb hj => by
      obtain ⟨q, hq, hql, hqe⟩ := sufP_at (l := l) (k := k) (i := j) (by rw [← Hzz.out]; exact hj)
      rw [Hl.out] at hql
      obtain ⟨pg, hpa, cq⟩ := (HP.out.below hb) j q hq
      obtain ⟨b1, off1, y, he, hy, _, c0, c1, c2, c3, c4⟩ := (Hev.out.below hb).at (show q < n by omega)
      cases he
      exact ⟨pg, q, y, hpa, by rw [← hqe, getD_of hy], by omega, cq, c0, c1, c2, c3, c4⟩
    have hTl : (l.take k).length ≤ 100 := by rw [List.length_take]; omega
    have HTl := Lib.hid hTl
    obtain ⟨T, hT⟩ : ∃ T, T = l.take k := ⟨_, rfl⟩
    obtain ⟨Z, hZ⟩ : ∃ Z, Z = sufZ l k := ⟨_, rfl⟩
    have HTr : Hid (Tr (T ++ Z) (T ++ Z.getD u ev00 :: Z.eraseIdx u)) := by
      rw [Hid, hT, hZ]; exact front_tr (by rw [← Hzz.out]; exact huz) Hf.out
    have HZw : Hid (wrongS (T.length + Z.length) (T ++ Z) = 0 ∧ wrongS (T.length + Z.length) (T ++ Z.getD u ev00 :: Z.eraseIdx u) = 0) := by
      have hln : T.length + Z.length ≤ 100 := by rw [hT, hZ, ← Hzz.out, List.length_take]; omega
      have h1 : wrongS (T.length + Z.length) (T ++ Z) = 0 := by
        refine wrong_okL hln ?_
        rw [hT, hZ]
        have := frX_ok HR.out HF.out.lt
        exact this
      refine ⟨h1, ?_⟩
      obtain ⟨T', hT', _⟩ := HTr.out.ok (show ofS (T ++ Z) = (takes log0 (T ++ Z), 0, 0) from by obtain ⟨S', hS'⟩ := wrong_ofS h1; rw [ofS_takes hS'] at hS'; exact hS')
      exact wrong_okL hln (okL_of hT')
    have HZwf : Hid ((∀ e ∈ T, e.wf) ∧ ∀ e ∈ Z, e.wf) := by
      rw [Hid, hT, hZ]
      refine ⟨fun e he => Hev.out.wf e (List.mem_of_mem_take he), ?_⟩
      unfold sufZ
      exact evsAt_wf Hev.out.wf fun j hj => by have := (restP_mem.1 hj).1; omega
    rw [← hT] at H2 HTl
    rw [← hZ] at HAt Hzz
    clear hT hZ HT HR HF Hf Hla hTl
    obtain ⟨pg, q0, y0, rfl, hy0, hq0, cq, c0, c1, c2, c3, c4⟩ := HAt.out w2 u H2.out.below huz
    have HYe := Lib.hid hy0
    obtain ⟨yt, yk, yo, yv, yb⟩ := y0
    simp only at c0 c1 c2 c3 c4
    have hu1 : u < z + 1 := by omega
    have hI1 : (u : Int) < (z : Int) + 1 := by omega
    have hTcap : Hid (T.length < 1000000) := by rw [Hid]; have := HTl.out; omega
    clear hy0
    go_wp2_with (at_builtin; go_loud (refine wpList_push eltEv rfl (.tmp 61) (.tmp 69) rfl ⟨yt, yk, yo, yv, yb⟩ rfl rfl rfl H2.out.oy H2.out.sz hTcap.out ?_))
    intro v' w3 hown hw hv
    have H3 : Hid (TwoE w w.heap.size B vx v' (T ++ Z.take 0) (T ++ Z.getD u ev00 :: (Z.take 0).eraseIdx u) w3) := by
      rw [Hid, List.take_zero, List.append_nil, HYe.out]
      exact H2.out.pushY hown hw hv
    clear hown hw hv H2 c0 c1 c2 c3 c4 cq hu1 hI1 hTcap HYe
    go_wp2_with fail
    go_loopw [14, 15, 16] (fun x y i wr => ∃ j : Nat, j ≤ z ∧ i = .int .i64 j ∧ Hid (TwoE w w.heap.size B x y (T ++ Z.take j) (T ++ Z.getD u ev00 :: (Z.take j).eraseIdx u) wr)) (fun _ _ i _ => z - (intOf i).toNat)
    case atStart => exact ⟨0, Nat.zero_le _, by go_num, H3.out⟩
    case round =>
      clear H3
      obtain ⟨j, hj, rfl, HL⟩ := hrel
      by_cases hjz : j < z
      · obtain ⟨pg', q, y, he, hy, hq, cq, c0, c1, c2, c3, c4⟩ := HAt.out wr j HL.out.below hjz
        cases he
        have hjZ : j < Z.length := by rw [← Hzz.out]; exact hjz
        have Hst := Lib.hid (erase_step hjZ (show u < Z.length by rw [← Hzz.out]; exact huz))
        have Htk : Hid (Z.take (j + 1) = Z.take j ++ [y]) := by
          rw [Hid, ← hy, List.take_add_one, List.getElem?_eq_getElem hjZ]
          simp [List.getD_eq_getElem?_getD, List.getElem?_eq_getElem hjZ]
        obtain ⟨yt, yk, yo, yv, yb⟩ := y
        simp only at c0 c1 c2 c3 c4
        have hj1 : j < z + 1 := by omega
        have hI1 : (j : Int) < (z : Int) + 1 := by omega
        have Hcp : Hid ((T ++ Z.take j).length < 1000000) := by rw [Hid, List.length_append, List.length_take]; have := HTl.out; omega
        have Hcq : Hid ((T ++ Z.getD u ev00 :: (Z.take j).eraseIdx u).length < 1000000) := by
          have h1 : ((Z.take j).eraseIdx u).length ≤ (Z.take j).length := List.length_eraseIdx_le ..
          rw [List.length_take] at h1
          rw [Hid, List.length_append, List.length_cons]; have := HTl.out; omega
        clear hy
        go_wp2_with (at_builtin; go_loud (refine wpList_push eltEv rfl (.tmp 76) (.tmp 84) rfl ⟨yt, yk, yo, yv, yb⟩ rfl rfl rfl HL.out.ox HL.out.szA Hcp.out ?_))
        intro v' w4 hown hw hv
        have H4 : Hid (TwoE w w.heap.size B v' u15 (T ++ Z.take (j + 1)) (T ++ Z.getD u ev00 :: (Z.take j).eraseIdx u) w4) := by
          rw [Hid, Htk.out]
          exact HL.out.pushX hown hw hv
        clear hown hw hv HL cq c0 c1 c2 c3 c4
        by_cases hju : j = u
        · have hne : ((j : Int) != (u : Int)) = false := by rw [hju]; simp
          have H5 : Hid (TwoE w w.heap.size B v' u15 (T ++ Z.take (j + 1)) (T ++ Z.getD u ev00 :: (Z.take (j + 1)).eraseIdx u) w4) := by
            rw [Hid, Hst.out, if_pos hju]; exact H4.out
          clear hju H4
          go_wp2
          go_roundw
          case rel => exact ⟨j + 1, hjz, by go_num, H5.out⟩
          case measure => exact meas hjz
        · have hne : ((j : Int) != (u : Int)) = true := by simpa [bne] using (show (j : Int) ≠ (u : Int) by omega)
          rw [if_neg hju] at Hst
          obtain ⟨pg', q', y, he, hy, hq', cq, c0, c1, c2, c3, c4⟩ := HAt.out w4 j H4.out.below hjz
          cases he
          have Hst2 : Hid ((Z.take (j + 1)).eraseIdx u = (Z.take j).eraseIdx u ++ [y]) := by rw [Hid, Hst.out, hy]
          obtain ⟨yt, yk, yo, yv, yb⟩ := y
          simp only at c0 c1 c2 c3 c4
          clear hy hju Hst
          go_wp2_with (at_builtin; go_loud (refine wpList_push eltEv rfl (.tmp 89) (.tmp 97) rfl ⟨yt, yk, yo, yv, yb⟩ rfl rfl rfl H4.out.oy H4.out.sz Hcq.out ?_))
          intro v'' w5 hown hw hv
          have H5 : Hid (TwoE w w.heap.size B v' v'' (T ++ Z.take (j + 1)) (T ++ Z.getD u ev00 :: (Z.take (j + 1)).eraseIdx u) w5) := by
            rw [Hid, Hst2.out]
            exact H4.out.pushY (by simpa using hown) hw hv
          clear hown hw hv H4 cq c0 c1 c2 c3 c4
          go_wp2
          go_roundw
          case rel => exact ⟨j + 1, hjz, by go_num, H5.out⟩
          case measure => exact meas hjz
      · have hjz : j = z := Nat.le_antisymm hj (Nat.le_of_not_lt hjz)
        subst hjz
        have hX := HL.out
        rw [Hzz.out, List.take_length] at hX
        obtain ⟨xa, xc, rfl, hI⟩ := hX.ox.evs (fun e he => by
          rcases List.mem_append.1 he with he | he
          · exact HZwf.out.1 e he
          · exact HZwf.out.2 e he)
        obtain ⟨ya, yc, rfl, hJ⟩ := hX.oy.evs (fun e he => HTr.out.wfF (fun e he => by
          rcases List.mem_append.1 he with he | he
          · exact HZwf.out.1 e he
          · exact HZwf.out.2 e he) e he)
        have hlx : (T ++ Z).length = T.length + Z.length := List.length_append
        have hly : (T ++ Z.getD u ev00 :: Z.eraseIdx u).length = T.length + Z.length := by rw [HTr.out.len, hlx]
        rw [hlx] at hI ⊢
        rw [hly] at hJ ⊢
        have HI := Lib.hid hI
        have HJ := Lib.hid hJ
        have HBx := Lib.hid hX.below
        clear hX hI hJ hlx hly HL
        go_wp2_with fail
        refine (same_calls HI.out HJ.out).mono ?_
        rintro e w6 ⟨rfl, hb⟩
        have HB6 := Lib.hid (HBx.out.trans (hb.mono HBx.out.size))
        clear hb HI HJ
        rw [sameRes_ok HZw.out.1 HZw.out.2, normL_tr HTr.out, eqB_self]
        simp only
        go_wp2
        go_ret
        exact ⟨rfl, HB6.out⟩
end Go.Proofs.Ytjhlehepnhbbaaa

namespace Go.Proofs.Ytjhlehepnhbbaaa
open Go.ChangeShapes Go.WideShapes Go.ChangeAt Go.RowKit Go.Deep

theorem ndF_lt (n : Nat) (l : List Ev) (k : Nat) : ndF n l k < 256 := by
  unfold ndF needF needN
  split
  · exact (initS_lt _ _).2
  · omega
theorem popT_zero : popT 0 8 = 0 := by decide

set_option maxRecDepth 20000 in
set_option maxHeartbeats 16000000 in
theorem sourceFronts_law {w : World} {a0 : Option Addr} {n c : Nat} {l : List Ev} (h : IsEvs w a0 n c l) :
    Calls Try.prog 13 #[.slice a0 n c] w fun e w' => e = .returned (.bool true) ∧ Below w.heap.size w w' := by
  have Hev := Lib.hid h
  have Hl := Lib.hid h.len
  have hnm : n ≤ 9223372036854775807 := by have := h.le; have := h.cap; unfold maxLen at *; omega
  clear h
  go_enter Try.func13, Try.ntmps13
  go_wp2_with fail
  refine (awake19_calls _).mono ?_
  rintro e w1 ⟨rfl, hb⟩
  have HB1 := Lib.hid hb
  clear hb
  go_wp2_with fail
  refine (rwrong_calls (Hev.out.below HB1.out)).mono ?_
  rintro e w2 ⟨rfl, hb⟩
  have HB2 := Lib.hid (HB1.out.trans (hb.mono HB1.out.size))
  clear hb HB1
  by_cases hz : wrongS n l = 0
  case neg =>
    have hz' : (wrongS n l != 0) = true := by simpa [bne] using hz
    clear hz
    generalize wrongS n l = z at *
    go_wp2
    go_ret
    exact ⟨rfl, HB2.out⟩
  have Hz := Lib.hid hz
  rw [hz]
  by_cases hn0 : n = 0
  · subst hn0
    clear hz
    go_wp2
    go_ret
    exact ⟨rfl, HB2.out⟩
  have hn100 : n ≤ 100 := wrong_le16 hz
  have hnb : ((n : Int) == 0) = false := by simpa using hn0
  have HG : Hid (GoodL n l) := by obtain ⟨S, hS⟩ := wrong_ofS hz; exact good_of Hev.out hn100 hS
  obtain ⟨S, hS⟩ := wrong_ofS hz
  have HS := Lib.hid hS
  have Hok : Hid (ndOk n l = true) := by rw [Hid]; unfold ndOk; rw [decide_eq_true hz, decide_eq_true hn0]; rfl
  clear hz hS
  go_wp2_with fail
  refine (pneeds_calls (Hev.out.below HB2.out)).mono ?_
  rintro e w3 ⟨hb, ⟨ho, _⟩ | ⟨_, g, rfl, hg⟩⟩
  · rw [Hok.out] at ho; cases ho
  have HB3 := Lib.hid (HB2.out.trans (hb.mono HB2.out.size))
  have Hg := Lib.hid hg
  have hgl := Lib.hid (Array.getElem?_eq_some_iff.1 hg).1
  clear hb hg HB2 Hok
  have hnn : ((n : Int) != (n : Int)) = false := by simp
  go_wp2_with fail
  go_loopw [8, 9, 10, 11, 12, 13, 14, 15] (fun x _ _ _ _ _ _ _ wr => ∃ k : Nat, k ≤ n ∧ x = .int .i64 k ∧ Hid (Below w3.heap.size w3 wr)) (fun x _ _ _ _ _ _ _ _ => n - (intOf x).toNat)
  case atStart => exact ⟨0, Nat.zero_le _, by go_num, Below.refl ..⟩
  case round =>
    obtain ⟨k, hk, rfl, HB⟩ := hrel
    by_cases hkn : k < n
    · have hm := ndF_lt n l k
      have Hfr : Hid (ndF n l k ≠ 0 → FrontAt l k) := fun h0 => frontAt (by unfold frS; rw [Hl.out]; exact h0)
      have Hfs : Hid (frS l k = ndF n l k) := by rw [Hid]; unfold frS; rw [Hl.out]
      have cg : wr.cell? ⟨g, k, none⟩ = some (.int .u64 ((ndF n l k : Nat) : Int)) := keep HB.out (by
        have := Hg.out
        rw [show w3.cell? ⟨g, k, none⟩ = (uintsA n (ndF n l))[k]? by simp [World.cell?, this]]
        exact uintsA_get hkn)
      have HBits : ∀ W, Calls Try.prog 40 #[.int .u64 ((ndF n l k : Nat) : Int)] W fun e w' => e = .returned (bitsV (ndF n l k)) ∧ Below W.heap.size W w' := fun W => by
        have := rbits_calls W (s := ndF n l k) (by omega)
        rw [Nat.mod_eq_of_lt hm] at this
        exact this
      have HLen := fun W => rlen_calls W (m := ndF n l k)
      have hpl : popT (ndF n l k) 8 ≤ 8 := popT_le _ _
      have Hpz : Hid (popT (ndF n l k) 8 ≠ 0 → ndF n l k ≠ 0) := fun h1 h2 => h1 (by rw [h2]; exact popT_zero)
      obtain ⟨f, hf⟩ : ∃ f, f = (ndF n l k).testBit := ⟨_, rfl⟩
      have hbv : bitsV (ndF n l k) = .agg #[.bool (f 0), .bool (f 1), .bool (f 2), .bool (f 3), .bool (f 4), .bool (f 5), .bool (f 6), .bool (f 7)] := by subst hf; rfl
      rw [hbv] at HBits HLen
      have HLn := Lib.hid HLen
      have Hbi := Lib.hid HBits
      have Hf := Lib.hid hf
      clear HLen hbv hf HBits hm
      revert cg Hfr Hfs Hbi HLn hpl Hpz Hf
      generalize popT (ndF n l k) 8 = pl
      generalize ndF n l k = m
      intro Hfr Hfs cg hpl Hpz HLn Hbi Hf
      go_wp2_with fail
      refine (Hbi.out _).mono ?_
      rintro e w4 ⟨rfl, hb⟩
      have HB4 := Lib.hid (HB.out.trans (hb.mono HB.out.size))
      clear hb HB Hbi cg
      go_wp2_with fail
      have hA := one_newR w4 #[.bool (f 0), .bool (f 1), .bool (f 2), .bool (f 3), .bool (f 4), .bool (f 5), .bool (f 6), .bool (f 7)] 66
      have HB5 := Lib.hid (HB4.out.trans (hA.2.mono HB4.out.size))
      clear HB4
      revert hA HB5
      generalize w4.alloc (.cells #[.bool (f 0), .bool (f 1), .bool (f 2), .bool (f 3), .bool (f 4), .bool (f 5), .bool (f 6), .bool (f 7)] 66) = w5
      generalize w4.heap.size = g5
      intro hA HB5
      have hca : ∀ t, t < 8 → w5.cell? ⟨g5, t, none⟩ = some (.bool (f t)) := fun t ht => eight (P := fun t => w5.cell? ⟨g5, t, none⟩ = some (.bool (f t))) (cell_of_block hA.1) (cell_of_block hA.1) (cell_of_block hA.1) (cell_of_block hA.1) (cell_of_block hA.1) (cell_of_block hA.1) (cell_of_block hA.1) (cell_of_block hA.1) t ht
      have HCa := Lib.hid hca
      clear hA hca
      refine (HLn.out _).mono ?_
      rintro e w6 ⟨rfl, hb⟩
      have HB6 := Lib.hid (HB5.out.trans (hb.mono HB5.out.size))
      have HC6 : Hid (∀ t, t < 8 → w6.cell? ⟨g5, t, none⟩ = some (.bool (f t))) := fun t ht => keep hb (HCa.out t ht)
      clear hb HB5 HCa HLn
      by_cases hpl0 : pl = 0
      · have hpb : ((pl : Int) == 0) = true := by rw [hpl0]; rfl
        clear hpl0 Hpz
        go_wp2
        go_roundw
        case rel => exact ⟨k + 1, hkn, by go_num, HB6.out⟩
        case measure => exact meas hkn
      have hpb : ((pl : Int) == 0) = false := by simpa using hpl0
      have HF := Lib.hid (Hfr.out (Hpz.out hpl0))
      clear hpl0 Hpz Hfr
      have hkl : k < n - 1 := by have := HF.out.lt; rw [Hl.out] at this; exact this
      have hkb : ((k : Int) == (n : Int) - 1) = false := by simp; omega
      have hkn1 : (k : Int) < (n : Int) - 1 := by omega
      obtain ⟨b0, off, x, rfl, hx, _, c0, _, _, _, _⟩ := (Hev.out.below (HB3.out.trans (HB6.out.mono HB3.out.size))).at hkn
      have hth := HG.out.th hkn
      rw [thE_of hx] at hth
      have htx : thE l k = x.t := thE_of hx
      obtain ⟨tk, htk⟩ := Int.eq_ofNat_of_zero_le hth.1
      have htk8 : tk < 8 := by omega
      have ctk := HC6.out tk htk8
      have hft : f tk = false := by
        have h1 := HF.out.own (by rw [htx]; exact hth.1)
        rw [Hfs.out, ← Hf.out, htx, htk] at h1
        exact h1
      rw [hft] at ctk
      rw [htk] at c0
      have Hsr : Hid (sufRes n l (k : Int) ((n : Int) - 1) = (natsI (sufP l k), 0)) := by
        have h1 := sufRes_in (n := n) (l := l) (i := k) (j := n - 1) Hz.out hkl (by omega)
        rw [show ((n - 1 : Nat) : Int) = (n : Int) - 1 by omega] at h1
        rw [Hid, h1]
        unfold sufP
        rw [Hl.out, natsI_app]
        show _ = (_ ++ [((n - 1 : Nat) : Int)], 0)
        rw [show ((n - 1 : Nat) : Int) = (n : Int) - 1 by omega]
      clear hx hth htx htk hft
      go_wp2_with fail
      refine (suffix_calls (Hev.out.below (HB3.out.trans (HB6.out.mono HB3.out.size))) (k : Int) ((n : Int) - 1)).mono ?_
      rintro e w7 ⟨v, rfl, hown, hb⟩
      rw [Hsr.out] at hown ⊢
      simp only at hown ⊢
      have HB7 := Lib.hid (HB6.out.trans (hb.mono HB6.out.size))
      have HC7 : Hid (∀ t, t < 8 → w7.cell? ⟨g5, t, none⟩ = some (.bool (f t))) := fun t ht => keep hb (HC6.out t ht)
      obtain ⟨pa, pc, rfl, hpc, _⟩ := hown.int_at
      have HA := Lib.hid (OwnL.atR hown)
      have hsl : (natsI (sufP l k)).length = (sufP l k).length := natsI_len _
      have Hs100 : Hid ((sufP l k).length ≤ 200) := by
        have h1 := sufZ_le HF.out.lt
        rw [Hid, sufP_len]
        have := Hl.out
        have := HF.out.lt
        omega
      rw [hsl] at hpc ⊢
      clear hb hown HB6 HC6 c0 ctk hsl Hsr
      go_wp2_with fail
      go_loopw [13, 14, 15] (fun x _ _ wr => ∃ t : Nat, t ≤ 8 ∧ x = .int .i64 t ∧ Hid (Below w7.heap.size w7 wr)) (fun x _ _ _ => 8 - (intOf x).toNat)
      case atStart => exact ⟨0, Nat.zero_le _, by go_num, Below.refl ..⟩
      case round =>
        obtain ⟨t, ht, rfl, HBt⟩ := hrel
        by_cases ht8 : t < 8
        · have ct := keep HBt.out (HC7.out t ht8)
          by_cases hft : f t = true
          · obtain ⟨_, u, hu, hut, hufree, hune⟩ := HF.out.has t (by rw [Hfs.out, ← Hf.out]; exact hft)
            rw [hft] at ct
            have HU := Lib.hid (And.intro hut (And.intro hufree hune))
            clear hut hufree hune hft
            have HEv := Lib.hid (Hev.out.below (HB3.out.trans ((HB7.out.trans (HBt.out.mono HB7.out.size)).mono HB3.out.size)))
            have hu63 : u ≤ 200 := by have := Hs100.out; omega
            go_wp2_with fail
            refine (ffirst_calls HEv.out (HA.out.below HBt.out) (fun q hq => by have := sufP_lt (l := l) (k := k) (by rw [Hl.out]; omega) hq; rw [Hl.out] at this; exact this) Hs100.out hu HU.out.1 HU.out.2.2).mono ?_
            rintro e w8 ⟨rfl, hb⟩
            have HB8 := Lib.hid (HBt.out.trans (hb.mono HBt.out.size))
            have HEv8 := Lib.hid (HEv.out.below hb)
            clear hb HBt HEv ct
            go_wp2_with fail
            refine (front_calls HEv8.out hn100 HS.out HF.out (HA.out.below HB8.out) hu HU.out.2.1).mono ?_
            rintro e w9 ⟨rfl, hb⟩
            have HB9 := Lib.hid (HB8.out.trans (hb.mono HB8.out.size))
            clear hb HB8 HEv8 HU hu
            go_wp2
            go_roundw
            case rel => exact ⟨t + 1, ht8, by go_num, HB9.out⟩
            case measure => exact meas ht8
          · have hft : f t = false := by simpa using hft
            rw [hft] at ct
            clear hft
            go_wp2
            go_roundw
            case rel => exact ⟨t + 1, ht8, by go_num, HBt.out⟩
            case measure => exact meas ht8
        · have ht8 : t = 8 := Nat.le_antisymm ht (Nat.le_of_not_lt ht8)
          subst ht8
          have HBx := Lib.hid (HB7.out.trans (HBt.out.mono HB7.out.size))
          clear HBt
          go_wp2
          go_roundw
          case rel => exact ⟨k + 1, hkn, by go_num, HBx.out⟩
          case measure => exact meas hkn
    · have hkn : k = n := Nat.le_antisymm hk (Nat.le_of_not_lt hkn)
      subst hkn
      have HBx := Lib.hid (HB3.out.trans (HB.out.mono HB3.out.size))
      clear HB
      go_wp2
      go_ret
      exact ⟨rfl, HBx.out⟩
end Go.Proofs.Ytjhlehepnhbbaaa
