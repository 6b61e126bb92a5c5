/-
  order.Of: what happens before what, of any list of events.
-/
import Derived.Test.YtadngicebbnnlaaMoment
set_option linter.unusedSimpArgs false
set_option linter.unusedVariables false
namespace Go.Proofs.Ytadngicebbnnlaa
open Go.ChangeShapes Go.WideShapes Go.ChangeAt Go.RowKit Go.Deep

theorem goOf_right : ∀ (l : List Ev) (S : LogS) (i : Nat), (goOf S l i).2.1 = 0 → ∀ e ∈ l, rB e = true
  | [], S, i, _, e, he => by cases he
  | x :: r, S, i, h, e, he => by
    unfold goOf at h
    by_cases hz : addE S x = 0
    · rw [if_pos hz] at h
      rcases List.mem_cons.1 he with rfl | he
      · unfold addE at hz
        cases hr : rB e
        · rw [hr] at hz; simp at hz
        · rfl
      · exact goOf_right r _ _ h e he
    · rw [if_neg hz] at h; exact absurd h hz
theorem right_th {e : Ev} (h : rB e = true) : 0 ≤ e.t ∧ e.t < 8 := by
  unfold rB rightB inB at h
  simp only [Bool.and_eq_true, decide_eq_true_eq] at h
  exact h.1
theorem getD_of {l : List Ev} {i : Nat} {e : Ev} (h : l[i]? = some e) : l.getD i ev00 = e := by simp [List.getD, h]
def zero8 : List Int := List.replicate 8 0
theorem zero8_cv : CV zero8 := ⟨rfl, fun a ha => by rw [List.eq_of_mem_replicate ha]; omega, fun a ha => by rw [List.eq_of_mem_replicate ha]; exact Fit.of (by decide) (by decide)⟩

def OrdPost (l : List Ev) (n : Nat) (w : World) (x : Ending) (w' : World) : Prop :=
  Below w.heap.size w w' ∧
  ((100 < n ∧ x = .returned (.tuple #[.pointer none, .int .i64 122])) ∨
   (n ≤ 100 ∧ (ofS l).2.1 ≠ 0 ∧ x = .returned (.tuple #[.pointer none, .int .i64 (ofS l).2.1])) ∨
   (n ≤ 100 ∧ (ofS l).2.1 = 0 ∧ ∃ b v, x = .returned (.tuple #[.pointer (some ⟨b, 0, none⟩), .int .i64 0]) ∧ OrdAt w' w.heap.size b v l n))

set_option maxRecDepth 20000 in
set_option maxHeartbeats 4000000 in
theorem ord_long {w : World} {a0 : Option Addr} {n c : Nat} {l : List Ev} (h : IsEvs w a0 n c l) (h100 : 100 < n) :
    Calls Try.prog 15 #[.slice a0 n c] w (OrdPost l n w) := by
  have hnm : n ≤ 9223372036854775807 := by have := h.le; have := h.cap; unfold maxLen at *; omega
  have hp : ∀ w', Below w.heap.size w w' → OrdPost l n w (.returned (.tuple #[.pointer none, .int .i64 122])) w' := fun w' hb => ⟨hb, .inl ⟨h100, rfl⟩⟩
  have Hp := Lib.hid hp
  clear hp
  go_enter Try.func15, Try.ntmps15
  go_wp2
  go_ret2
  exact Hp.out _ (Below.refl _ _)
set_option maxRecDepth 20000 in
set_option maxHeartbeats 4000000 in
theorem ord_bad {w : World} {a0 : Option Addr} {n c : Nat} {l : List Ev} (h : IsEvs w a0 n c l) (hn100 : n ≤ 100) {S : LogS} {z : Int} {p : Nat} (hR : ofS l = (S, z, p)) (hz : z ≠ 0) :
    Calls Try.prog 15 #[.slice a0 n c] w (OrdPost l n w) := by
  have hnm : n ≤ 9223372036854775807 := by omega
  have hp : ∀ w', Below w.heap.size w w' → OrdPost l n w (.returned (.tuple #[.pointer none, .int .i64 z])) w' := fun w' hb => ⟨hb, .inr (.inl ⟨hn100, by rw [hR]; exact hz, by rw [hR]⟩)⟩
  have hz' : (z != 0) = true := by simpa using hz
  have Hp := Lib.hid hp
  clear hp
  go_enter Try.func15, Try.ntmps15
  go_wp2_with fail
  refine (lof_no h (by omega) hR hz).mono ?_
  rintro e w1 ⟨rfl, hb⟩
  go_wp2
  go_ret2
  exact Hp.out _ hb
theorem of_right {l : List Ev} {S : LogS} {p : Nat} (hR : ofS l = (S, 0, p)) {i : Nat} {e : Ev} (he : l[i]? = some e) : 0 ≤ e.t ∧ e.t < 8 :=
  right_th (goOf_right l log0 0 (by unfold ofS at hR; rw [hR]) e (List.mem_of_getElem? he))
theorem of_p0 {l : List Ev} {S : LogS} {p : Nat} (hR : ofS l = (S, 0, p)) : p = 0 := by
  have := (goOf_ok l log0 0 (show (goOf log0 l 0).2.1 = 0 by have := hR; unfold ofS at this; rw [this])).1
  unfold ofS at hR
  rw [hR] at this
  exact this
def mom0 (t : Int) : Array Value := #[.int .i64 t, .int .i64 1, .int .i64 0, .int .i64 0, .int .i64 0, .int .i64 0, .int .i64 0, .int .i64 0, .int .i64 0, .int .i64 0, .int .i64 0, .int .i64 0, .int .i64 0, .int .i64 0, .int .i64 0, .int .i64 0, .int .i64 0, .int .i64 0, .int .i64 (-1)]
theorem mom0_one (t : Int) : (mom0 t).all (·.oneCell') = true := by simp [mom0, Value.oneCell']
theorem built_mom (t : Int) : Try.prog.built 82 [(0, .int .i64 t), (1, .int .i64 1), (4, .int .i64 (-1))] = some (mom0 t) := by kernel_rfl
theorem sizeMom : (Try.prog.info? 82).map (·.size) = some 19 := by kernel_rfl

def momZ : Array Value := #[.int .i64 0, .int .i64 0, .int .i64 0, .int .i64 0, .int .i64 0, .int .i64 0, .int .i64 0, .int .i64 0, .int .i64 0, .int .i64 0, .int .i64 0, .int .i64 0, .int .i64 0, .int .i64 0, .int .i64 0, .int .i64 0, .int .i64 0, .int .i64 0, .int .i64 0]
theorem heap_alloc1 (w : World) (A B : Array Value) (tA tB : TypeId) : ((w.alloc (.cells A tA)).alloc (.cells B tB)).heap[w.heap.size + 1]? = some (.cells B tB (0, 0)) := by
  have := (MapKept.heap_alloc (w.alloc (.cells A tA)) (.cells B tB)).1
  simpa using this
theorem made2 (w : World) (A z cs : Array Value) (tA t : TypeId) :
    (((w.alloc (.cells A tA)).alloc (.cells z t)).setRow (w.heap.size + 1) cs).heap[w.heap.size + 1]? = some (.cells cs t (0, 0)) ∧
    (((w.alloc (.cells A tA)).alloc (.cells z t)).setRow (w.heap.size + 1) cs).heap[w.heap.size]? = some (.cells A tA (0, 0)) ∧
    Below w.heap.size w (((w.alloc (.cells A tA)).alloc (.cells z t)).setRow (w.heap.size + 1) cs) ∧
    (((w.alloc (.cells A tA)).alloc (.cells z t)).setRow (w.heap.size + 1) cs).heap.size = w.heap.size + 2 := by
  have h1 := heap_alloc1 w A z tA t
  have hA := (MapKept.heap_alloc w (.cells A tA)).1
  have hs : (w.alloc (.cells A tA)).heap.size = w.heap.size + 1 := by simp
  have b1 : Below w.heap.size w (w.alloc (.cells A tA)) := (Below.refl _ w).alloc (Nat.le_refl _) _
  have b2 : Below (w.alloc (.cells A tA)).heap.size (w.alloc (.cells A tA)) ((w.alloc (.cells A tA)).alloc (.cells z t)) := (Below.refl _ _).alloc (Nat.le_refl _) _
  refine ⟨setRow_heap _ _ _ _ _ _ h1, ?_, ?_, ?_⟩
  · rw [setRow_other _ _ _ _ (by omega), b2.block _ (by omega)]; exact hA
  · exact below_setRow ((b1.trans (b2.mono (by omega)))) (by omega) _
  · simp
end Go.Proofs.Ytadngicebbnnlaa
