/-
  Of: a log of a list of events, the program's and the document's.
-/
import Derived.Test.YtadngicebbnnlaaStateAdd
import Derived.Test.YtadngicebbnnlaaLogAll
import Derived.Test.YtadngicebbnnlaaRow
set_option linter.unusedSimpArgs false
set_option linter.unusedVariables false
namespace Go.Proofs.Ytadngicebbnnlaa
open Go.ChangeShapes Go.WideShapes Go.ChangeAt Go.RowKit Go.Deep

def goOf (S : LogS) : List Ev → Nat → LogS × Int × Nat
  | [], _ => (S, 0, 0)
  | e :: r, i => if addE S e = 0 then goOf (addS S e) r (i + 1) else (S, addE S e, i)
def ofS (l : List Ev) : LogS × Int × Nat := goOf log0 l 0

theorem addE_zero {S : LogS} {e : Ev} (h : addE S e = 0) : addS S e = turnS S e := by
  unfold addE at h
  unfold addS
  cases hr : rB e
  · rw [hr] at h; simp at h
  · rw [hr] at h
    cases hk : okB S e
    · rw [hk] at h; simp at h
    · rfl
theorem addE_not {S : LogS} {e : Ev} (h : addE S e ≠ 0) : addS S e = S := by
  unfold addE at h
  unfold addS
  cases hr : rB e
  · rfl
  · cases hk : okB S e
    · rfl
    · rw [hr, hk] at h; simp at h
theorem goOf_ok : ∀ (l : List Ev) (S : LogS) (i : Nat), (goOf S l i).2.1 = 0 → (goOf S l i).2.2 = 0 ∧ (goOf S l i).1.l = S.l ++ l
  | [], S, i, _ => ⟨rfl, by simp [goOf]⟩
  | e :: r, S, i, h => by
    unfold goOf at h ⊢
    by_cases hz : addE S e = 0
    · rw [if_pos hz] at h ⊢
      obtain ⟨h1, h2⟩ := goOf_ok r (addS S e) (i + 1) h
      refine ⟨h1, ?_⟩
      rw [h2, addE_zero hz]; simp [turnS]
    · rw [if_neg hz] at h; exact absurd h hz
theorem goOf_good : ∀ (l : List Ev) (S : LogS) (i : Nat), Good S → Good (goOf S l i).1
  | [], S, i, h => h
  | e :: r, S, i, h => by
    unfold goOf
    by_cases hz : addE S e = 0
    · rw [if_pos hz]; exact goOf_good r _ _ (addS_good h e)
    · rw [if_neg hz]; exact h
theorem ofS_len {l : List Ev} (h : (ofS l).2.1 = 0) : (ofS l).1.l = l := by have h2 := (goOf_ok l log0 0 h).2; unfold ofS; rw [h2]; rfl
theorem ofS_good (l : List Ev) : Good (ofS l).1 := goOf_good l _ _ good0
theorem goOf_step {S : LogS} {l : List Ev} {k : Nat} {e : Ev} (hx : l[k]? = some e) : goOf S (l.drop k) k = if addE S e = 0 then goOf (addS S e) (l.drop (k + 1)) (k + 1) else (S, addE S e, k) := by
  have hk := (List.getElem?_eq_some_iff.1 hx)
  obtain ⟨hlt, rfl⟩ := hk
  rw [List.drop_eq_getElem_cons hlt]
  rfl

def OfPost (l : List Ev) (w : World) (x : Ending) (w' : World) : Prop :=
  Below w.heap.size w w' ∧
  (((ofS l).2.1 = 0 ∧ ∃ b vl va, x = .returned (.tuple #[.pointer (some ⟨b, 0, none⟩), .int .i64 0, .int .i64 0]) ∧ LogAt w' w.heap.size b vl va (ofS l).1) ∨
   ((ofS l).2.1 ≠ 0 ∧ x = .returned (.tuple #[.pointer none, .int .i64 (ofS l).2.1, .int .i64 (ofS l).2.2])))

set_option maxHeartbeats 2000000 in
theorem lof_calls {w : World} {a0 : Option Addr} {n c : Nat} {l : List Ev} (h : IsEvs w a0 n c l) (hcap : n * 40 ≤ 140737488355328) :
    Calls Try.prog 40 #[.slice a0 n c] w (OfPost l w) := by
  have Hl := Lib.hid h.len
  go_enter Try.func40, Try.ntmps40
  go_wp2_with fail
  refine (lnew_calls _).mono ?_
  rintro e w1 ⟨rfl, hL1, hB1⟩
  have HL1 := Lib.hid hL1
  clear hL1
  go_wp2
  go_loopw [12] (fun v wr => ∃ (k : Nat) (S : LogS) (vl va : Value), k ≤ n ∧ v = .int .i64 k ∧ Hid (ofS l = goOf S (l.drop k) k ∧ S.l.length = k ∧ LogAt wr w.heap.size w.heap.size vl va S) ∧ Below w.heap.size w wr) (fun v _ => n - (intOf v).toNat)
  case atStart => exact ⟨0, log0, _, _, Nat.zero_le _, rfl, ⟨rfl, rfl, HL1.out⟩, hB1⟩
  case round =>
    obtain ⟨k, S, vl, va, hk, rfl, Hr, hB⟩ := hrel
    by_cases hlt : k < n
    · obtain ⟨b, off, x, rfl, hx, _, c0, c1, c2, c3, c4⟩ := h.at hlt
      have c0 := keep hB c0
      have c1 := keep hB c1
      have c2 := keep hB c2
      have c3 := keep hB c3
      have c4 := keep hB c4
      have Hx := Lib.hid hx
      clear hx
      go_wp2_with fail
      refine (add_calls (Hr.out.2.2.below ((Below.refl _ wr).alloc (Nat.le_refl _) _)) x (by have := Hr.out.2.1; omega)).mono ?_
      rintro e w2 ⟨vl', va', rfl, hL2, hW, hsub⟩
      have hB2 : Below w.heap.size w w2 := Wrote.below (hB.alloc hB.size _) hW (by have := hB.size; simp; omega) Hr.out.2.2.base
      have hstep := Hr.out.1
      rw [goOf_step Hx.out] at hstep
      have hlen := Hr.out.2.1
      have HL2 := Lib.hid hL2
      have HB2 := Lib.hid hB2
      clear hL2 hB2 hW hsub Hr hB c0 c1 c2 c3 c4
      by_cases hz : addE S x = 0
      · rw [if_pos hz] at hstep
        have hn : (addS S x).l.length = k + 1 := by rw [addE_zero hz]; simp [turnS, hlen]
        rw [hz]
        have Hq := Lib.hid (And.intro hstep hn)
        clear hstep hn hz hlen
        go_wp2
        go_roundw
        case rel => exact ⟨k + 1, addS S x, vl', va', by omega, by go_num, ⟨Hq.out.1, Hq.out.2, HL2.out⟩, HB2.out⟩
        case measure => simp [intOf]; omega
      · rw [if_neg hz] at hstep
        have hp : OfPost l w (.returned (.tuple #[.pointer none, .int .i64 (addE S x), .int .i64 k])) w2 := ⟨HB2.out, .inr (by rw [hstep]; exact ⟨hz, rfl⟩)⟩
        have Hp := Lib.hid hp
        have hz' : (addE S x != 0) = true := by simpa [bne] using hz
        clear hp hstep hz hlen
        generalize addE S x = z at *
        go_wp2
        go_returns
        exact Hp.out
    · have hkn : k = n := by omega
      have hfin : ofS l = (S, 0, 0) := by
        rw [Hr.out.1, List.drop_of_length_le (by rw [Hl.out]; omega)]; rfl
      have hp : OfPost l w (.returned (.tuple #[.pointer (some ⟨w.heap.size, 0, none⟩), .int .i64 0, .int .i64 0])) wr := ⟨hB, .inl (by rw [hfin]; exact ⟨rfl, _, vl, va, rfl, Hr.out.2.2⟩)⟩
      have Hp := Lib.hid hp
      clear hp hfin Hr hB
      go_wp2
      go_returns
      exact Hp.out

/-- The document's state behind all events. -/
def zArr : Array Value := #[.int .i64 0, .int .i64 0, .int .i64 0, .int .i64 0, .int .i64 0, .int .i64 0, .int .i64 0, .int .i64 0, .int .i64 0, .int .i64 0, .int .i64 0, .int .i64 0, .int .i64 0, .int .i64 0, .int .i64 0, .int .i64 0]
def ROfPost (l : List Ev) (w : World) (x : Ending) (w' : World) : Prop :=
  Below w.heap.size w w' ∧ x = .returned (.tuple #[.agg (if (ofS l).2.1 = 0 then stArr (ofS l).1.st (ofS l).1.ow else zArr), .int .i64 (ofS l).2.1, .int .i64 (ofS l).2.2])
theorem stArr_size (st ow : Nat → Int) : (stArr st ow).size = 16 := rfl
theorem stArr_one (st ow : Nat → Int) : (stArr st ow).all (·.oneCell') = true := by simp [stArr, Value.oneCell']
theorem infoState : (Try.prog.info? 47).map (·.size) = some 16 := by kernel_rfl

set_option maxHeartbeats 4000000 in
theorem rof_calls {w : World} {a0 : Option Addr} {n c : Nat} {l : List Ev} (h : IsEvs w a0 n c l) :
    Calls Try.prog 39 #[.slice a0 n c] w (ROfPost l w) := by
  have Hl := Lib.hid h.len
  have hnm : n ≤ 9223372036854775807 := by have := h.le; have := h.cap; unfold maxLen at *; omega
  go_enter Try.func39, Try.ntmps39
  go_wp2_with fail
  refine (first_calls _).mono ?_
  rintro e w1 ⟨rfl, hB1⟩
  have hR1 : w1.heap[w.heap.size]? = some (.cells zArr 47 (0, 0)) := (hB1.block _ (by simp)).trans (MapKept.heap_alloc w _).1
  have hB1' : Below w.heap.size w w1 := Below.trans (by go_grown) (hB1.mono (by simp))
  have hlt1 : w.heap.size < w1.heap.size := by have := hB1.size; simp at this; omega
  clear hB1
  go_wp2_with (refine wpList_store_row rfl 47 (.tmp 5) (.tmp 8) rfl w1.heap.size (stArr log0.st log0.ow) rfl rfl 47 zArr (MapKept.heap_alloc w1 _).1 infoState rfl (stArr_one _ _) ?_)
  have hT2 : StateAt ((w1.alloc (.cells #[.int .i64 0, .int .i64 0, .int .i64 0, .int .i64 0, .int .i64 0, .int .i64 0, .int .i64 0, .int .i64 0, .int .i64 0, .int .i64 0, .int .i64 0, .int .i64 0, .int .i64 0, .int .i64 0, .int .i64 0, .int .i64 0] 47)).setRow w1.heap.size (stArr log0.st log0.ow)) w1.heap.size log0 := setRow_heap _ _ _ _ _ _ (MapKept.heap_alloc w1 _).1
  have hB2 : Below w.heap.size w ((w1.alloc (.cells #[.int .i64 0, .int .i64 0, .int .i64 0, .int .i64 0, .int .i64 0, .int .i64 0, .int .i64 0, .int .i64 0, .int .i64 0, .int .i64 0, .int .i64 0, .int .i64 0, .int .i64 0, .int .i64 0, .int .i64 0, .int .i64 0] 47)).setRow w1.heap.size (stArr log0.st log0.ow)) := below_of_mod (hB1'.alloc hB1'.size _) (setRow_wrote _ _ _) (by simp; have := hB1'.size; omega) hB1'.size
  have hR2 : ((w1.alloc (.cells #[.int .i64 0, .int .i64 0, .int .i64 0, .int .i64 0, .int .i64 0, .int .i64 0, .int .i64 0, .int .i64 0, .int .i64 0, .int .i64 0, .int .i64 0, .int .i64 0, .int .i64 0, .int .i64 0, .int .i64 0, .int .i64 0] 47)).setRow w1.heap.size (stArr log0.st log0.ow)).heap[w.heap.size]? = some (.cells zArr 47 (0, 0)) := (setRow_other _ _ _ _ (by omega)).trans ((Below.heap_alloc w1 _ _ hlt1).trans hR1)
  clear hR1 hB1'
  revert hT2 hB2 hR2
  generalize ((w1.alloc (.cells #[.int .i64 0, .int .i64 0, .int .i64 0, .int .i64 0, .int .i64 0, .int .i64 0, .int .i64 0, .int .i64 0, .int .i64 0, .int .i64 0, .int .i64 0, .int .i64 0, .int .i64 0, .int .i64 0, .int .i64 0, .int .i64 0] 47)).setRow w1.heap.size (stArr log0.st log0.ow)) = w2
  generalize w1.heap.size = bs at *
  intro hT2 hB2 hR2
  have HT2 := Lib.hid hT2
  have HR2 := Lib.hid hR2
  clear hT2 hR2
  go_loopw [6] (fun v wr => ∃ (k : Nat) (S : LogS), k ≤ n ∧ v = .int .i64 k ∧ Hid (ofS l = goOf S (l.drop k) k ∧ StateAt wr bs S ∧ Good S ∧ wr.heap[w.heap.size]? = some (.cells zArr 47 (0, 0))) ∧ Below w.heap.size w wr) (fun v _ => n - (intOf v).toNat)
  case atStart => exact ⟨0, log0, Nat.zero_le _, rfl, ⟨rfl, HT2.out, good0, HR2.out⟩, hB2⟩
  case round =>
    obtain ⟨k, S, hk, rfl, Hr, hB⟩ := hrel
    by_cases hlt : k < n
    · obtain ⟨b, off, x, rfl, hx, _, c0, c1, c2, c3, c4⟩ := h.at hlt
      have c0 := keep hB c0
      have c1 := keep hB c1
      have c2 := keep hB c2
      have c3 := keep hB c3
      have c4 := keep hB c4
      have Hx := Lib.hid hx
      clear hx
      go_wp2_with fail
      refine (sadd_calls Hr.out.2.1 Hr.out.2.2.1 x).mono ?_
      rintro e w3 ⟨rfl, hT3, hM3⟩
      have hB3 : Below w.heap.size w w3 := below_of_mod hB hM3 hB.size (by omega)
      have hR3 : w3.heap[w.heap.size]? = some (.cells zArr 47 (0, 0)) := (hM3.block _ (by have := Hr.out.2.1.lt; omega) (by intro hq; cases hq; omega)).trans Hr.out.2.2.2
      have hstep := Hr.out.1
      rw [goOf_step Hx.out] at hstep
      have hg3 := addS_good Hr.out.2.2.1 x
      have HT3 := Lib.hid hT3
      have HB3 := Lib.hid hB3
      have HR3 := Lib.hid hR3
      clear hT3 hM3 hB3 hR3 Hr hB c0 c1 c2 c3 c4
      by_cases hz : addE S x = 0
      · rw [if_pos hz] at hstep
        rw [hz]
        have Hq := Lib.hid (And.intro hstep hg3)
        clear hstep hg3 hz
        go_wp2
        go_roundw
        case rel => exact ⟨k + 1, addS S x, by omega, by go_num, ⟨Hq.out.1, HT3.out, Hq.out.2, HR3.out⟩, HB3.out⟩
        case measure => simp [intOf]; omega
      · rw [if_neg hz] at hstep
        have hp : ∀ w', Below w.heap.size w w' → ROfPost l w (.returned (.tuple #[.agg zArr, .int .i64 (addE S x), .int .i64 k])) w' := fun w' hb => ⟨hb, by rw [hstep]; simp only; rw [if_neg hz]⟩
        have Hp := Lib.hid hp
        have hz' : (addE S x != 0) = true := by simpa [bne] using hz
        have hR4 := setRow_heap w3 w.heap.size zArr zArr _ _ HR3.out
        have HR4 := Lib.hid hR4
        have hB4 := below_of_mod HB3.out (setRow_wrote w3 w.heap.size zArr) HB3.out.size (Nat.le_refl _)
        have HB4 := Lib.hid hB4
        clear hp hstep hz hg3 hR4 hB4
        generalize addE S x = z at *
        go_wp2_with (refine wpList_store_row rfl 47 (.tmp 2) (.tmp 22) rfl w.heap.size zArr rfl rfl 47 zArr HR3.out infoState rfl (by simp [zArr, Value.oneCell']) ?_)
        (try simp only [Exit.inBlock, Exit.then])
        refine bodyPost_ret (results_row2 rfl _ _ w.heap.size 47 _ (0, 0) _ rfl HR4.out Try.underlying47 rfl (by kernel_rfl)) rfl ?_
        exact Hp.out _ HB4.out
    · have hkn : k = n := by omega
      have hfin : ofS l = (S, 0, 0) := by
        rw [Hr.out.1, List.drop_of_length_le (by rw [Hl.out]; omega)]; rfl
      have hp : ∀ w', Below w.heap.size w w' → ROfPost l w (.returned (.tuple #[.agg (stArr S.st S.ow), .int .i64 0, .int .i64 0])) w' := fun w' hb => ⟨hb, by rw [hfin]; rfl⟩
      have Hp := Lib.hid hp
      have hR4 := setRow_heap wr w.heap.size zArr (stArr S.st S.ow) _ _ Hr.out.2.2.2
      have HR4 := Lib.hid hR4
      have hB4 := below_of_mod hB (setRow_wrote wr w.heap.size (stArr S.st S.ow)) hB.size (Nat.le_refl _)
      have HB4 := Lib.hid hB4
      clear hp hfin hR4 hB4 hB
      go_wp2_with (first | (refine wpList_load_row rfl 47 (.tmp 5) rfl bs rfl 47 (stArr S.st S.ow) (0, 0) _ Hr.out.2.1 Try.underlying47 rfl (by kernel_rfl) ?_) | (refine wpList_store_row rfl 47 (.tmp 2) (.tmp 25) rfl w.heap.size (stArr S.st S.ow) rfl rfl 47 zArr Hr.out.2.2.2 infoState rfl (stArr_one _ _) ?_))
      (try simp only [Exit.inBlock, Exit.then])
      refine bodyPost_ret (results_row2 rfl _ _ w.heap.size 47 _ (0, 0) _ rfl HR4.out Try.underlying47 rfl (by kernel_rfl)) rfl ?_
      exact Hp.out _ HB4.out

theorem ofS_cases (l : List Ev) : (∃ S, ofS l = (S, 0, 0) ∧ S.l = l ∧ Good S) ∨ (∃ S z p, ofS l = (S, z, p) ∧ z ≠ 0) := by
  by_cases hz : (ofS l).2.1 = 0
  · refine .inl ⟨(ofS l).1, ?_, ofS_len hz, ofS_good l⟩
    have h2 := (goOf_ok l log0 0 hz).1
    exact Prod.ext rfl (Prod.ext hz h2)
  · exact .inr ⟨_, _, _, rfl, hz⟩

section
variable {w : World} {a0 : Option Addr} {n c : Nat} {l : List Ev} {S : LogS} {z : Int} {p : Nat}
theorem rof_ok (h : IsEvs w a0 n c l) (hR : ofS l = (S, 0, 0)) : Calls Try.prog 39 #[.slice a0 n c] w fun e w' => e = .returned (.tuple #[.agg (stArr S.st S.ow), .int .i64 0, .int .i64 0]) ∧ Below w.heap.size w w' :=
  (rof_calls h).mono fun e w' ⟨h1, h2⟩ => ⟨by rw [h2, hR]; rfl, h1⟩
theorem rof_no (h : IsEvs w a0 n c l) (hR : ofS l = (S, z, p)) (hz : z ≠ 0) : Calls Try.prog 39 #[.slice a0 n c] w fun e w' => e = .returned (.tuple #[.agg zArr, .int .i64 z, .int .i64 p]) ∧ Below w.heap.size w w' :=
  (rof_calls h).mono fun e w' ⟨h1, h2⟩ => ⟨by rw [h2, hR]; simp only; rw [if_neg hz], h1⟩
theorem lof_ok (h : IsEvs w a0 n c l) (hcap : n * 40 ≤ 140737488355328) (hR : ofS l = (S, 0, 0)) : Calls Try.prog 40 #[.slice a0 n c] w fun e w' =>
    ∃ b vl va, e = .returned (.tuple #[.pointer (some ⟨b, 0, none⟩), .int .i64 0, .int .i64 0]) ∧ LogAt w' w.heap.size b vl va S ∧ Below w.heap.size w w' :=
  (lof_calls h hcap).mono fun e w' ⟨h1, h2⟩ => by
    rcases h2 with ⟨_, b, vl, va, h3, h4⟩ | ⟨h3, _⟩
    · rw [hR] at h4; exact ⟨b, vl, va, h3, h4, h1⟩
    · rw [hR] at h3; exact absurd rfl h3
theorem lof_no (h : IsEvs w a0 n c l) (hcap : n * 40 ≤ 140737488355328) (hR : ofS l = (S, z, p)) (hz : z ≠ 0) : Calls Try.prog 40 #[.slice a0 n c] w fun e w' =>
    e = .returned (.tuple #[.pointer none, .int .i64 z, .int .i64 p]) ∧ Below w.heap.size w w' :=
  (lof_calls h hcap).mono fun e w' ⟨h1, h2⟩ => by
    rcases h2 with ⟨h3, _⟩ | ⟨_, h3⟩
    · rw [hR] at h3; exact absurd h3 hz
    · rw [hR] at h3; exact ⟨h3, h1⟩
end
theorem row_made (w : World) (z cs : Array Value) (t : TypeId) : ((w.alloc (.cells z t)).setRow w.heap.size cs).heap[w.heap.size]? = some (.cells cs t (0, 0)) ∧ Below w.heap.size w ((w.alloc (.cells z t)).setRow w.heap.size cs) :=
  ⟨setRow_heap _ _ _ _ _ _ (MapKept.heap_alloc w _).1, below_of_mod ((Below.refl _ w).alloc (Nat.le_refl _) _) (setRow_wrote _ _ _) (by simp) (Nat.le_refl _)⟩
theorem row_lt (w : World) (z cs : Array Value) (t : TypeId) : w.heap.size < ((w.alloc (.cells z t)).setRow w.heap.size cs).heap.size := by simp
end Go.Proofs.Ytadngicebbnnlaa
