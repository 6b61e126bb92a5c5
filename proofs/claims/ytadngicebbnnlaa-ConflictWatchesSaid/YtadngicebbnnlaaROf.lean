/-
  The document's Wrong and Of of layer 14.
-/
import Derived.Test.YtadngicebbnnlaaClosed
set_option linter.unusedSimpArgs false
set_option linter.unusedVariables false
namespace Go.Proofs.Ytadngicebbnnlaa
open Go.ChangeShapes Go.WideShapes Go.ChangeAt Go.RowKit Go.Deep

def wrongS (n : Nat) (l : List Ev) : Int := if 100 < n then 122 else (ofS l).2.1
set_option maxHeartbeats 4000000 in
theorem rwrong_calls {w : World} {a0 : Option Addr} {n c : Nat} {l : List Ev} (h : IsEvs w a0 n c l) :
    Calls Try.prog 14 #[.slice a0 n c] w fun e w' => e = .returned (.int .i64 (wrongS n l)) ∧ Below w.heap.size w w' := by
  have hnm : n ≤ 9223372036854775807 := by have := h.le; have := h.cap; unfold maxLen at *; omega
  by_cases h100 : 100 < n
  · have Hv : Hid (wrongS n l = 122) := if_pos h100
    rw [Hv.out]
    go_enter Try.func14, Try.ntmps14
    go_wp2
    go_ret
    exact ⟨rfl, Below.refl _ _⟩
  · have hv : wrongS n l = (ofS l).2.1 := if_neg h100
    rcases ofS_cases l with ⟨S, hR, _, _⟩ | ⟨S, z, p, hR, hz⟩
    · have Hv : Hid (wrongS n l = 0) := by unfold Hid; rw [hv, hR]
      clear hv
      rw [Hv.out]
      have Hc := Lib.hid (rof_ok h hR)
      go_enter Try.func14, Try.ntmps14
      go_wp2_with fail
      refine Hc.out.mono ?_
      rintro e w1 ⟨rfl, hb⟩
      go_wp2_with (refine wpList_store_row rfl 47 (.tmp 3) (.tmp 12) rfl w1.heap.size (stArr S.st S.ow) rfl rfl 47 zArr (MapKept.heap_alloc w1 _).1 infoState rfl (stArr_one _ _) ?_)
      go_ret
      exact ⟨rfl, below_setRow (hb.alloc hb.size _) hb.size _⟩
    · have Hv : Hid (wrongS n l = z) := by unfold Hid; rw [hv, hR]
      clear hv
      rw [Hv.out]
      have Hc := Lib.hid (rof_no h hR hz)
      go_enter Try.func14, Try.ntmps14
      go_wp2_with fail
      refine Hc.out.mono ?_
      rintro e w1 ⟨rfl, hb⟩
      go_wp2_with (refine wpList_store_row rfl 47 (.tmp 3) (.tmp 12) rfl w1.heap.size zArr rfl rfl 47 zArr (MapKept.heap_alloc w1 _).1 infoState rfl (by simp [zArr, Value.oneCell']) ?_)
      go_ret
      exact ⟨rfl, below_setRow (hb.alloc hb.size _) hb.size _⟩

theorem ownsRow_base {w : World} {B B' : Nat} {e : TypeId} {size : Nat} {v : Value} {n : Nat} {xs : List Value} (h : w.ownsRow B e size v n xs) (hb : B' ≤ B) : w.ownsRow B' e size v n xs := by
  refine ⟨h.1, ?_⟩
  rcases h.2 with hn | ⟨g, cap, cur, rfl, hg, rest⟩
  · exact .inl hn
  · exact .inr ⟨g, cap, cur, rfl, Nat.le_trans hb hg, rest⟩
theorem MatAt.aside {w w' : World} {B B' : Nat} {v : Value} {n m : Nat} {f : Nat → Nat → Bool} (h : MatAt w B v n m f) (hb : B' ≤ B) (hw : ∀ x, B ≤ x → x < w.heap.size → w'.heap[x]? = w.heap[x]?) : MatAt w' B' v n m f := by
  obtain ⟨gs, ho, hg⟩ := h.ex
  refine ⟨gs, ownsRow_base (ownsRow_at ho (fun x hx => hw x (ho.lt x hx).1 (ho.lt x hx).2)) hb, fun j g hj => ?_⟩
  obtain ⟨h1, h2, h3⟩ := hg j g hj
  exact ⟨Nat.le_trans hb h1, h2, (hw g h1 (Array.getElem?_eq_some_iff.1 h3).1).trans h3⟩

theorem MatAt.slice {w : World} {B : Nat} {v : Value} {n m : Nat} {f : Nat → Nat → Bool} (h : MatAt w B v n m f) : ∃ a p q, v = .slice a p q := by
  obtain ⟨gs, ho, _⟩ := h.ex
  rcases ho.2 with ⟨h1, _⟩ | ⟨g, cap, cur, h1, _⟩
  · exact ⟨_, _, _, h1⟩
  · exact ⟨_, _, _, h1⟩

/-- What the document's Of hands back. -/
def ROrdPost (a0 : Option Addr) (l : List Ev) (n c : Nat) (w : World) (x : Ending) (w' : World) : Prop :=
  Below w.heap.size w w' ∧
  ((wrongS n l ≠ 0 ∧ x = .returned (.tuple #[.agg #[.slice none 0 0, .slice none 0 0, .slice none 0 0], .int .i64 (wrongS n l)])) ∨
   (wrongS n l = 0 ∧ ∃ v1 v2, x = .returned (.tuple #[.agg #[.slice a0 n c, v1, v2], .int .i64 0]) ∧ MatAt w' w.heap.size v1 n n (fun j i => hbB (rD l) i j) ∧ MatAt w' w.heap.size v2 n n (fun j i => hbB (rS l) i j)))

set_option maxRecDepth 20000 in
set_option maxHeartbeats 4000000 in
theorem rord_bad {w : World} {a0 : Option Addr} {n c : Nat} {l : List Ev} (h : IsEvs w a0 n c l) (hz : wrongS n l ≠ 0) :
    Calls Try.prog 37 #[.slice a0 n c] w (ROrdPost a0 l n c w) := by
  have hp : ∀ w', Below w.heap.size w w' → ROrdPost a0 l n c w (.returned (.tuple #[.agg #[.slice none 0 0, .slice none 0 0, .slice none 0 0], .int .i64 (wrongS n l)])) w' := fun w' hb => ⟨hb, .inl ⟨hz, rfl⟩⟩
  have Hp := Lib.hid hp
  have hz' : (wrongS n l != 0) = true := by simpa using hz
  have hb0 : Below w.heap.size w (w.alloc (.cells #[.slice none 0 0, .slice none 0 0, .slice none 0 0] 68)) := (Below.refl _ w).alloc (Nat.le_refl _) _
  have Hc := Lib.hid (rwrong_calls (h.below hb0))
  clear hp hz
  generalize wrongS n l = z at *
  go_enter Try.func37, Try.ntmps37
  go_wp2_with fail
  refine Hc.out.mono ?_
  rintro e w1 ⟨rfl, hb⟩
  have hR1 : w1.heap[w.heap.size]? = some (.cells #[.slice none 0 0, .slice none 0 0, .slice none 0 0] 68 (0, 0)) := (hb.block _ (by simp)).trans (MapKept.heap_alloc w _).1
  have hB1 : Below w.heap.size w w1 := Below.trans hb0 (hb.mono (by simp))
  have hR2 := setRow_heap w1 w.heap.size _ #[.slice none 0 0, .slice none 0 0, .slice none 0 0] _ _ hR1
  have hB2 := below_setRow hB1 (Nat.le_refl _) #[.slice none 0 0, .slice none 0 0, .slice none 0 0]
  have HR1 := Lib.hid hR1
  have HR2 := Lib.hid hR2
  have HB2 := Lib.hid hB2
  clear hb hR1 hB1 hR2 hB2 hb0
  go_wp2_with (refine wpList_store_row rfl 68 (.tmp 2) (.tmp 10) rfl w.heap.size #[.slice none 0 0, .slice none 0 0, .slice none 0 0] rfl rfl 68 _ HR1.out (by kernel_rfl) rfl (by simp [Value.oneCell']) ?_)
  (try simp only [Exit.inBlock, Exit.then])
  refine bodyPost_ret (results_row1 rfl _ _ w.heap.size 68 _ (0, 0) _ rfl HR2.out Try.underlying68 rfl (by kernel_rfl)) rfl ?_
  exact Hp.out _ HB2.out
set_option maxRecDepth 20000 in
set_option maxHeartbeats 8000000 in
theorem rord_good {w : World} {a0 : Option Addr} {n c : Nat} {l : List Ev} (h : IsEvs w a0 n c l) (hn100 : n ≤ 100) {S : LogS} (hR : ofS l = (S, 0, 0)) :
    Calls Try.prog 37 #[.slice a0 n c] w (ROrdPost a0 l n c w) := by
  have hz : wrongS n l = 0 := by unfold wrongS; rw [if_neg (by omega), hR]
  have hrt : ∀ (i : Nat) (e : Ev), l[i]? = some e → rB e = true := fun i e he => goOf_right l log0 0 (by unfold ofS at hR; rw [hR]) e (List.mem_of_getElem? he)
  have hp : ∀ v1 v2 w', Below w.heap.size w w' → MatAt w' w.heap.size v1 n n (fun j i => hbB (rD l) i j) → MatAt w' w.heap.size v2 n n (fun j i => hbB (rS l) i j) → ROrdPost a0 l n c w (.returned (.tuple #[.agg #[.slice a0 n c, v1, v2], .int .i64 0])) w' := fun v1 v2 w' hb h1 h2 => ⟨hb, .inr ⟨hz, v1, v2, rfl, h1, h2⟩⟩
  have Hp := Lib.hid hp
  have hb0 : Below w.heap.size w (w.alloc (.cells #[.slice none 0 0, .slice none 0 0, .slice none 0 0] 68)) := (Below.refl _ w).alloc (Nat.le_refl _) _
  have hc0 := rwrong_calls (h.below hb0)
  rw [hz] at hc0
  have Hc := Lib.hid hc0
  have Hrt := Lib.hid hrt
  have Hev := Lib.hid h
  clear hp hz hc0 hrt
  go_enter Try.func37, Try.ntmps37
  go_wp2_with fail
  refine Hc.out.mono ?_
  rintro e w1 ⟨rfl, hb⟩
  have hR1 : w1.heap[w.heap.size]? = some (.cells #[.slice none 0 0, .slice none 0 0, .slice none 0 0] 68 (0, 0)) := (hb.block _ (by simp)).trans (MapKept.heap_alloc w _).1
  have hB1 : Below w.heap.size w w1 := Below.trans hb0 (hb.mono (by simp))
  have hl1 : w.heap.size < w1.heap.size := (Array.getElem?_eq_some_iff.1 hR1).1
  clear hb hb0 Hc
  go_wp2_with fail
  have N2 := (MapKept.heap_alloc w1 (.cells #[.slice a0 n c, .slice none 0 0, .slice none 0 0] 68)).1
  have hs2 : (w1.alloc (.cells #[.slice a0 n c, .slice none 0 0, .slice none 0 0] 68)).heap.size = w1.heap.size + 1 := by simp
  have B12 : Below w1.heap.size w1 (w1.alloc (.cells #[.slice a0 n c, .slice none 0 0, .slice none 0 0] 68)) := (Below.refl _ w1).alloc (Nat.le_refl _) _
  revert N2 hs2 B12
  generalize w1.alloc (.cells #[.slice a0 n c, .slice none 0 0, .slice none 0 0] 68) = w2
  intro N2 hs2 B12
  have B2 : Below w.heap.size w w2 := hB1.trans (B12.mono hB1.size)
  refine (closed_calls (Hev.out.below B2) hn100 Hrt.out false).mono ?_
  rintro e w3 ⟨v1, rfl, hM1, hb3⟩
  obtain ⟨sa, sp, sq, rfl⟩ := hM1.slice
  have N3 := (hb3.block w1.heap.size (by omega)).trans N2
  have R3 := (hb3.block w.heap.size (by omega)).trans ((B12.block w.heap.size (by omega)).trans hR1)
  have B3 : Below w.heap.size w w3 := B2.trans (hb3.mono (by omega))
  have hs3 := hb3.size
  have m1 : w3.cell? ⟨w1.heap.size, 1, none⟩ = some (.slice none 0 0) := cell_of_block N3
  have hf3 : ∀ o, w3.frozen? ⟨w1.heap.size, o, none⟩ = false := fun o => free_of_block N3
  have N4 := set_block (i := 1) N3 (.slice sa sp sq)
  have R4 : (w3.setCell ⟨w1.heap.size, 1, none⟩ (.slice sa sp sq)).heap[w.heap.size]? = _ := (Below.heap_setCell w3 ⟨w1.heap.size, 1, none⟩ (.slice sa sp sq) w.heap.size (by simp only; omega)).trans R3
  have M4 : MatAt (w3.setCell ⟨w1.heap.size, 1, none⟩ (.slice sa sp sq)) w2.heap.size (.slice sa sp sq) n n (fun j i => hbB (rOf false l) i j) := hM1.aside (Nat.le_refl _) (fun x h1 _ => Below.heap_setCell _ _ _ _ (by simp only; omega))
  have B4 : Below w.heap.size w (w3.setCell ⟨w1.heap.size, 1, none⟩ (.slice sa sp sq)) := B3.setCell (p := ⟨w1.heap.size, 1, none⟩) (by simp only; omega) _
  have hs4 : (w3.setCell ⟨w1.heap.size, 1, none⟩ (.slice sa sp sq)).heap.size = w3.heap.size := by simp
  have HX := Lib.hid (And.intro N4 (And.intro R4 (And.intro M4 (And.intro B4 hs4))))
  clear N2 B12 B2 hM1 hb3 N3 R3 B3 N4 R4 M4 B4 hs4 hR1 hB1
  go_wp2_with fail
  revert HX
  generalize w3.setCell ⟨w1.heap.size, 1, none⟩ (.slice sa sp sq) = w4
  intro HX
  obtain ⟨N4, R4, M4, B4, hs4⟩ := HX.out
  clear m1 hf3
  refine (closed_calls (Hev.out.below B4) hn100 Hrt.out true).mono ?_
  rintro e w5 ⟨v2, rfl, hM2, hb5⟩
  obtain ⟨ta, tp, tq, rfl⟩ := hM2.slice
  have N5 := (hb5.block w1.heap.size (by omega)).trans N4
  have R5 := (hb5.block w.heap.size (by omega)).trans R4
  have B5 : Below w.heap.size w w5 := B4.trans (hb5.mono (by omega))
  have hs5 := hb5.size
  have M5 := M4.below hb5
  have m2 : w5.cell? ⟨w1.heap.size, 2, none⟩ = some (.slice none 0 0) := cell_of_block N5
  have hf5 : ∀ o, w5.frozen? ⟨w1.heap.size, o, none⟩ = false := fun o => free_of_block N5
  have N6 : (w5.setCell ⟨w1.heap.size, 2, none⟩ (.slice ta tp tq)).heap[w1.heap.size]? = some (.cells #[.slice a0 n c, .slice sa sp sq, .slice ta tp tq] 68 (0, 0)) := set_block (i := 2) N5 (.slice ta tp tq)
  have R6 : (w5.setCell ⟨w1.heap.size, 2, none⟩ (.slice ta tp tq)).heap[w.heap.size]? = _ := (Below.heap_setCell w5 ⟨w1.heap.size, 2, none⟩ (.slice ta tp tq) w.heap.size (by simp only; omega)).trans R5
  have M6 : MatAt (w5.setCell ⟨w1.heap.size, 2, none⟩ (.slice ta tp tq)) w2.heap.size (.slice sa sp sq) n n (fun j i => hbB (rOf false l) i j) := M5.aside (Nat.le_refl _) (fun x h1 _ => Below.heap_setCell _ _ _ _ (by simp only; omega))
  have M7 : MatAt (w5.setCell ⟨w1.heap.size, 2, none⟩ (.slice ta tp tq)) w4.heap.size (.slice ta tp tq) n n (fun j i => hbB (rOf true l) i j) := hM2.aside (Nat.le_refl _) (fun x h1 _ => Below.heap_setCell _ _ _ _ (by simp only; omega))
  have B6 : Below w.heap.size w (w5.setCell ⟨w1.heap.size, 2, none⟩ (.slice ta tp tq)) := B5.setCell (p := ⟨w1.heap.size, 2, none⟩) (by simp only; omega) _
  have hne : w.heap.size ≠ w1.heap.size := by omega
  have R8 := setRow_heap (w5.setCell ⟨w1.heap.size, 2, none⟩ (.slice ta tp tq)) w.heap.size _ #[.slice a0 n c, .slice sa sp sq, .slice ta tp tq] _ _ R6
  have M8 : MatAt ((w5.setCell ⟨w1.heap.size, 2, none⟩ (.slice ta tp tq)).setRow w.heap.size #[.slice a0 n c, .slice sa sp sq, .slice ta tp tq]) w.heap.size (.slice sa sp sq) n n (fun j i => hbB (rOf false l) i j) := M6.aside (by omega) (fun x h1 _ => setRow_other _ _ _ _ (by omega))
  have M9 : MatAt ((w5.setCell ⟨w1.heap.size, 2, none⟩ (.slice ta tp tq)).setRow w.heap.size #[.slice a0 n c, .slice sa sp sq, .slice ta tp tq]) w.heap.size (.slice ta tp tq) n n (fun j i => hbB (rOf true l) i j) := M7.aside (by omega) (fun x h1 _ => setRow_other _ _ _ _ (by omega))
  have B8 := below_setRow B6 (Nat.le_refl _) #[.slice a0 n c, .slice sa sp sq, .slice ta tp tq]
  have HN6 := Lib.hid N6
  have HR6 := Lib.hid R6
  have HR8 := Lib.hid R8
  have HM := Lib.hid (And.intro M8 (And.intro M9 B8))
  clear N4 R4 M4 B4 hM2 hb5 N5 R5 B5 M5 N6 R6 M6 M7 B6 R8 M8 M9 B8 HX
  go_wp2_with (first | (refine wpList_load_row rfl 68 (.tmp 5) rfl w1.heap.size rfl 68 #[.slice a0 n c, .slice sa sp sq, .slice ta tp tq] (0, 0) _ HN6.out Try.underlying68 rfl (by kernel_rfl) ?_) | (refine wpList_store_row rfl 68 (.tmp 2) (.tmp 20) rfl w.heap.size #[.slice a0 n c, .slice sa sp sq, .slice ta tp tq] rfl rfl 68 _ HR6.out (by kernel_rfl) rfl (by simp [Value.oneCell']) ?_))
  (try simp only [Exit.inBlock, Exit.then])
  refine bodyPost_ret (results_row1 rfl _ _ w.heap.size 68 _ (0, 0) _ rfl HR8.out Try.underlying68 rfl (by kernel_rfl)) rfl ?_
  exact Hp.out _ _ _ HM.out.2.2 HM.out.1 HM.out.2.1

theorem rord_calls {w : World} {a0 : Option Addr} {n c : Nat} {l : List Ev} (h : IsEvs w a0 n c l) :
    Calls Try.prog 37 #[.slice a0 n c] w (ROrdPost a0 l n c w) := by
  by_cases hz : wrongS n l = 0
  · rcases ofS_cases l with ⟨S, hR, _, _⟩ | ⟨S, z, p, hR, hne⟩
    · refine rord_good h ?_ hR
      rcases Nat.lt_or_ge 100 n with h1 | h1
      · unfold wrongS at hz; rw [if_pos h1] at hz; cases hz
      · exact h1
    · exfalso
      unfold wrongS at hz
      split at hz
      · cases hz
      · rw [hR] at hz; exact hne hz
  · exact rord_bad h hz
end Go.Proofs.Ytadngicebbnnlaa
